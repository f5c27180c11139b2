/- The walk's own small logic, first part: environments as functions, the rules of the control code. -/
import Derived.Tactics
import Derived.OrdersHeld
import Derived.ScopeJumps
namespace Go.Proofs.Ytgdbbaggkoillaa
namespace K

abbrev Env := Nat → Value

def upd (e : Env) (d : Nat) (v : Value) : Env := fun i => bif Nat.beq i d then v else e i
def up (e : Env) : Option Nat → Value → Env
  | none, _ => e
  | some d, v => upd e d v
def ev (e : Env) : Operand → Value
  | .tmp t => e t
  | .const v => v
  | .global g => .pointer (some ⟨g, 0, none⟩)
  | .func f => .func (.func f) #[] #[]
def envOf : List Value → Env
  | [], _ => undef
  | v :: _, 0 => v
  | _ :: l, i + 1 => envOf l i

structure Agr (N : Nat) (a : Act) (e : Env) : Prop where
  d : a.defers = []
  s : a.tmps.size = N
  g : ∀ i, a.tmps.getD i undef = e i

theorem Agr.eval {N : Nat} {a : Act} {e : Env} (h : Agr N a e) : a.eval = ev e := by
  funext x
  cases x with
  | tmp t => exact h.g t
  | _ => rfl

def dstOk (N : Nat) (o : Oper) : Bool := match o.dst with | none => true | some d => Nat.blt d N

theorem Agr.put {N : Nat} {a : Act} {e : Env} (h : Agr N a e) (o : Oper) (v : Value) (hd : dstOk N o = true) : Agr N (a.put o.dst v) (up e o.dst v) := by
  cases ho : o.dst with
  | none => exact h
  | some d =>
    have hlt : d < N := by
      have := hd
      simp only [dstOk, ho] at this
      rw [Nat.blt_eq] at this
      exact this
    refine ⟨h.d, by simp [Act.put, h.s], fun i => ?_⟩
    have hg := h.g i
    simp only [Act.put, up, upd]
    by_cases hid : i = d
    · subst hid
      simp [hlt, h.s]
    · have : Nat.beq i d = false := by
        rcases hb : Nat.beq i d with _ | _
        · rfl
        · exact absurd (Nat.eq_of_beq_eq_true hb) hid
      rw [this]
      simp only [cond_false]
      simp only [Array.getD_eq_getD_getElem?] at hg ⊢
      rw [Array.getElem?_setIfInBounds_ne (Ne.symm hid)]
      exact hg

/-- What an operation does, over an environment: it yields a value, stores, or enters a function that returns. -/
def OwpE (P : Program) (o : Oper) (e : Env) (w : World) (K : Value → World → Prop) : Prop :=
  match (execOp (ev e) o).run P w with
  | .ok (.value v) w' => K v w'
  | .ok .skip w' => K undef w'
  | .ok (.enter f args) w' => Calls P f args w' (fun r w'' => ∃ v, r = .returned v ∧ K v w'')
  | _ => False

theorem OwpE.wp {P : Program} {o : Oper} {e : Env} {w : World} {K : Value → World → Prop} {N : Nat} {a : Act} {K' : Act → World → Prop} {Q : Exit → Act → World → Prop}
    (ha : Agr N a e) (h : OwpE P o e w K) (hk : ∀ v w', K v w' → K' (a.put o.dst v) w') : o.wp P a w K' Q := by
  unfold OwpE at h
  unfold Oper.wp
  rw [ha.eval]
  generalize (execOp (ev e) o).run P w = r at *
  cases r with
  | ok n w' =>
    cases n <;> simp only [Oper.upon] at h ⊢
    case value v => exact hk _ _ h
    case skip => exact hk _ _ h
    case enter f args =>
      refine Calls.mono h fun x w'' hx => ?_
      obtain ⟨v, rfl, hv⟩ := hx
      exact hk _ _ hv
    all_goals exact h.elim
  | halt x w' => exact h.elim

theorem OwpE.mono {P : Program} {o : Oper} {e : Env} {w : World} {K K' : Value → World → Prop} (h : OwpE P o e w K) (hk : ∀ v w', K v w' → K' v w') : OwpE P o e w K' := by
  unfold OwpE at *
  generalize (execOp (ev e) o).run P w = r at *
  cases r with
  | ok n w' =>
    cases n <;> simp only at h ⊢
    case value v => exact hk _ _ h
    case skip => exact hk _ _ h
    case enter f args => exact Calls.mono h fun x w'' ⟨v, hv, hw⟩ => ⟨v, hv, hk _ _ hw⟩
    all_goals exact h
  | halt x w' => exact h

def nth {α : Type} : List α → Nat → Option α
  | [], _ => none
  | x :: _, 0 => some x
  | _ :: l, n + 1 => nth l n
theorem nth_eq {α : Type} : ∀ (l : List α) (n : Nat), nth l n = l[n]?
  | [], _ => rfl
  | x :: _, 0 => rfl
  | _ :: l, n + 1 => by rw [nth, nth_eq l n]; rfl
/-- The slot that operation j writes. -/
def gd (l0 : List Oper) (j : Nat) : Option Nat := match nth l0 j with | some o => o.dst | none => none
def gslot (l0 : List Oper) (e : Env) (j : Nat) : Option Bool :=
  match gd l0 j with
  | some t => (match e t with | .bool b => some b | _ => none)
  | none => none
def wantedE (l0 : List Oper) (o : Oper) (e : Env) : Bool := Region.wanted o (gslot l0 e)

theorem Agr.gs {N : Nat} {a : Act} {e : Env} (h : Agr N a e) (l0 : List Oper) : Go.yielded l0.toArray a.tmps = gslot l0 e := by
  funext j
  unfold Go.yielded gslot gd
  rw [List.getElem?_toArray, ← nth_eq]
  cases nth l0 j with
  | none => rfl
  | some o =>
    simp only [Option.bind_some]
    cases o.dst with
    | none => rfl
    | some t =>
      have hg := h.g t
      simp only [Option.bind_some]
      rw [← hg]
      by_cases ht : t < a.tmps.size
      · simp only [Array.getD_eq_getD_getElem?, Array.getElem?_eq_getElem ht, Option.getD_some]
        cases a.tmps[t] <;> rfl
      · simp only [Array.getD_eq_getD_getElem?, Array.getElem?_eq_none (Nat.le_of_not_lt ht), Option.getD_none]
        rfl

theorem Agr.wanted {N : Nat} {a : Act} {e : Env} (h : Agr N a e) (l0 : List Oper) (o : Oper) : Region.wanted o (Go.yielded l0.toArray a.tmps) = wantedE l0 o e := by
  unfold wantedE
  rw [h.gs]

/-- A list of operations in the text's order. -/
def wlE (P : Program) (l0 : List Oper) (Q : Env → World → Prop) : List Oper → Env → World → Prop
  | [], e, w => Q e w
  | o :: rest, e, w => bif wantedE l0 o e then OwpE P o e w (fun v w' => wlE P l0 Q rest (up e o.dst v) w') else wlE P l0 Q rest (up e o.dst undef) w

theorem wlE.sound {P : Program} {l0 : List Oper} {Q : Env → World → Prop} {N : Nat} {Q' : Exit → Act → World → Prop}
    (hq : ∀ a e w, Agr N a e → Q e w → Q' .normal a w) : ∀ (l : List Oper) (e : Env) (w : World) (a : Act), l.all (dstOk N) = true → Agr N a e → wlE P l0 Q l e w → wpList P l0.toArray Q' l a w
  | [], e, w, a, _, ha, h => hq a e w ha h
  | o :: rest, e, w, a, hd, ha, h => by
    simp only [List.all_cons, Bool.and_eq_true] at hd
    unfold wpList
    rw [ha.wanted]
    simp only [wlE] at h
    cases hw : wantedE l0 o e with
    | true =>
      rw [hw] at h
      simp only [cond_true] at h
      rw [if_pos rfl]
      exact .inl (OwpE.wp ha h fun v w' hv => wlE.sound hq rest _ w' _ hd.2 (ha.put o v hd.1) hv)
    | false =>
      rw [hw] at h
      simp only [cond_false] at h
      rw [if_neg (by simp)]
      exact wlE.sound hq rest _ w _ hd.2 (ha.put o undef hd.1) h

/-! ### Code: Rt is what a return asks, Q what the other ends ask. -/
abbrev Post := Exit → Env → World → Prop

def endE (Rt : Env → World → Prop) (Q : Post) : Post
  | .ret, e, w => Rt e w
  | x, e, w => Q x e w
def wpE (P : Program) (N : Nat) (Rt : Env → World → Prop) (c : Code) (Q : Post) (e : Env) (w : World) : Prop :=
  ∀ a, Agr N a e → c.wp P (fun x a' w' => ∃ e', Agr N a' e' ∧ endE Rt Q x e' w') a w

def thn (K : Env → World → Prop) (Q : Post) : Post
  | .normal, e, w => K e w
  | x, e, w => Q x e w
def blk (id : Nat) (Q : Post) : Post
  | .exit id', e, w => bif Nat.beq id' id then Q .normal e w else Q (.exit id') e w
  | x, e, w => Q x e w

section
variable {P : Program} {N : Nat} {Rt : Env → World → Prop} {Q : Post} {e : Env} {w : World}

/-! ends of a piece of code -/
theorem t_n {K : Env → World → Prop} (h : K e w) : thn K Q .normal e w := h
theorem t_x {K : Env → World → Prop} {id : Nat} (h : Q (.exit id) e w) : thn K Q (.exit id) e w := h
theorem t_g {K : Env → World → Prop} {id : Nat} (h : Q (.goto id) e w) : thn K Q (.goto id) e w := h
theorem b_n {id : Nat} (h : Q .normal e w) : blk id Q .normal e w := h
theorem b_g {id l : Nat} (h : Q (.goto l) e w) : blk id Q (.goto l) e w := h
theorem b_x {id : Nat} (h : Q .normal e w) : blk id Q (.exit id) e w := by
  show bif Nat.beq id id then Q .normal e w else Q (.exit id) e w
  rw [Nat.beq_refl]; exact h
theorem b_y {id id' : Nat} (hn : Nat.beq id' id = false) (h : Q (.exit id') e w) : blk id Q (.exit id') e w := by
  show bif Nat.beq id' id then Q .normal e w else Q (.exit id') e w
  rw [hn]; exact h
theorem b_tn {id : Nat} {K : Env → World → Prop} (h : K e w) : blk id (thn K Q) .normal e w := h
theorem b_tx {id : Nat} {K : Env → World → Prop} (h : K e w) : blk id (thn K Q) (.exit id) e w := b_x h

theorem c_seq {x y : Code} (h : wpE P N Rt x (thn (wpE P N Rt y Q) Q) e w) : wpE P N Rt (.seq x y) Q e w := by
  intro a ha
  refine wp_seq (wp_mono (h a ha) fun x a' w' hx => ?_)
  obtain ⟨e', ha', hq⟩ := hx
  cases x with
  | normal => exact hq a' ha'
  | _ => exact ⟨e', ha', hq⟩
theorem c_skip (h : Q .normal e w) : wpE P N Rt .skip Q e w := fun _ ha => wp_skip ⟨e, ha, h⟩
theorem c_ret (h : Rt e w) : wpE P N Rt .ret Q e w := fun _ ha => wp_ret ⟨e, ha, h⟩
theorem c_exit {id : Nat} (h : Q (.exit id) e w) : wpE P N Rt (.exit id) Q e w := fun _ ha => wp_exit ⟨e, ha, h⟩
theorem c_goto {l : Nat} (h : Q (.goto l) e w) : wpE P N Rt (.goto l) Q e w := fun _ ha => wp_goto ⟨e, ha, h⟩
theorem c_label {l : Nat} (h : Q .normal e w) : wpE P N Rt (.label l) Q e w := fun _ ha => wp_label ⟨e, ha, h⟩
theorem c_cond {c : Operand} {x y : Code} {t : Bool} (hc : ev e c = .bool t) (ht : t = true → wpE P N Rt x Q e w) (hf : t = false → wpE P N Rt y Q e w) : wpE P N Rt (.cond c x y) Q e w := by
  intro a ha
  have hc' : a.eval c = .bool t := by rw [ha.eval]; exact hc
  cases t with
  | true => exact wp_cond_true hc' (ht rfl a ha)
  | false => exact wp_cond_false hc' (hf rfl a ha)
theorem c_block {id : Nat} {c : Code} (h : wpE P N Rt c (blk id Q) e w) : wpE P N Rt (.block id c) Q e w := by
  intro a ha
  refine wp_block (wp_mono (h a ha) fun x a' w' hx => ?_)
  obtain ⟨e', ha', hq⟩ := hx
  cases x with
  | exit id' =>
    simp only [Exit.inBlock]
    by_cases hid : id' = id
    · subst hid
      simp only [endE, blk, Nat.beq_refl, cond_true] at hq
      rw [if_pos rfl]
      exact ⟨e', ha', hq⟩
    · have : Nat.beq id' id = false := by
        rcases hb : Nat.beq id' id with _ | _
        · rfl
        · exact absurd (Nat.eq_of_beq_eq_true hb) hid
      simp only [endE, blk, this, cond_false] at hq
      rw [if_neg hid]
      exact ⟨e', ha', hq⟩
  | _ => exact ⟨e', ha', hq⟩
theorem c_region {id : Nat} {l : List Oper} (hd : l.all (dstOk N) = true) (h : wlE P l (fun e w => Q .normal e w) l e w) : wpE P N Rt (.region id l.toArray false) Q e w := by
  intro a ha
  exact wp_region_lit (wlE.sound (fun a e w ha hq => ⟨e, ha, hq⟩) l e w a hd ha h)
theorem c_sreg {id : Nat} {l : List Oper} {y : Code} (hd : l.all (dstOk N) = true) (h : wlE P l (fun e w => wpE P N Rt y Q e w) l e w) : wpE P N Rt (.seq (.region id l.toArray false) y) Q e w := c_seq (c_region hd h)
theorem c_sif {c : Operand} {x y : Code} {t : Bool} (hc : ev e c = .bool t) (ht : t = true → wpE P N Rt x (thn (wpE P N Rt y Q) Q) e w) (hf : t = false → wpE P N Rt y Q e w) : wpE P N Rt (.seq (.cond c x .skip) y) Q e w := c_seq (c_cond hc ht (fun h => c_skip (hf h)))
theorem c_sife {c : Operand} {x x' y : Code} {t : Bool} (hc : ev e c = .bool t) (ht : t = true → wpE P N Rt x (thn (wpE P N Rt y Q) Q) e w) (hf : t = false → wpE P N Rt x' (thn (wpE P N Rt y Q) Q) e w) : wpE P N Rt (.seq (.cond c x x') y) Q e w := c_seq (c_cond hc ht hf)
/-- A loop's test: go on, or leave block id. -/
theorem c_test {c : Operand} {id : Nat} {y : Code} {t : Bool} (hc : ev e c = .bool t) (ht : t = true → wpE P N Rt y Q e w) (hf : t = false → Q (.exit id) e w) : wpE P N Rt (.seq (.cond c .skip (.exit id)) y) Q e w := c_seq (c_cond hc (fun h => c_skip (ht h)) (fun h => c_exit (hf h)))
theorem c_sblock {id : Nat} {c y : Code} (h : wpE P N Rt c (blk id (thn (wpE P N Rt y Q) Q)) e w) : wpE P N Rt (.seq (.block id c) y) Q e w := c_seq (c_block h)
theorem c_mono {c : Code} {Q' : Post} (h : wpE P N Rt c Q e w) (hq : ∀ x e w, Q x e w → Q' x e w) : wpE P N Rt c Q' e w :=
  fun a ha => wp_mono (h a ha) fun x _ _ ⟨e', ha', hx⟩ => ⟨e', ha', by cases x <;> first | exact hx | exact hq _ e' _ hx⟩

/-- What holds between two pieces of code, whichever way the first one went. -/
theorem c_mid {x y : Code} (M : Env → World → Prop) (h : wpE P N Rt x (thn M Q) e w) (k : ∀ e w, M e w → wpE P N Rt y Q e w) : wpE P N Rt (.seq x y) Q e w :=
  c_seq (c_mono h fun x e w hx => by cases x <;> first | exact k e w hx | exact hx)

theorem c_mid0 {x : Code} {K : Env → World → Prop} (M : Env → World → Prop) (h : wpE P N Rt x (thn M Q) e w) (k : ∀ e w, M e w → K e w) : wpE P N Rt x (thn K Q) e w :=
  c_mono h fun x e w hx => by cases x <;> first | exact k e w hx | exact hx

/-- A loop: what holds at each round's head, by a number that every round lowers. -/
theorem c_loop {c : Code} (I : Nat → Env → World → Prop) (k : Nat) (h0 : I k e w)
    (round : ∀ k e w, I k e w → wpE P N Rt c (thn (fun e' w' => ∃ k', k' < k ∧ I k' e' w') Q) e w) : wpE P N Rt (.loop c) Q e w := by
  intro a ha b kk cs
  have key : ∀ n a e w, Agr N a e → I n e w →
      ∃ x a' w', (∃ e', Agr N a' e' ∧ endE Rt Q x e' w') ∧ Arrives P (lone (b.at a (.code c :: .inLoop c :: kk)) cs w) b kk cs x a' w' := by
    intro n
    induction n using Nat.strongRecOn with
    | _ n ih =>
      intro a e w ha hI
      obtain ⟨x, a₁, w₁, ⟨e₁, ha₁, hq⟩, harr⟩ := round n e w hI a ha b (.inLoop c :: kk) cs
      cases x with
      | normal =>
        obtain ⟨n', hlt, hI'⟩ := hq
        obtain ⟨x₂, a₂, w₂, hq₂, harr₂⟩ := ih n' hlt a₁ e₁ w₁ ha₁ hI'
        exact ⟨x₂, a₂, w₂, hq₂, .of_steps (Steps.trans harr (.one step_inLoop)) harr₂⟩
      | exit id => exact ⟨.exit id, a₁, w₁, ⟨e₁, ha₁, hq⟩, .pass (x := .inLoop c) rfl (fun _ _ => .inl (by simp)) harr⟩
      | goto l => exact ⟨.goto l, a₁, w₁, ⟨e₁, ha₁, hq⟩, .pass (x := .inLoop c) rfl (fun _ _ => .inl (by simp)) harr⟩
      | ret => exact ⟨.ret, a₁, w₁, ⟨e₁, ha₁, hq⟩, .pass (x := .inLoop c) rfl (fun _ _ => .inl (by simp)) harr⟩
      | panic ch => exact ⟨.panic ch, a₁, w₁, ⟨e₁, ha₁, hq⟩, .pass (x := .inLoop c) rfl (fun _ _ => .inl (by simp)) harr⟩
      | outgrown => exact ⟨.outgrown, a₁, w₁, ⟨e₁, ha₁, hq⟩, .pass (x := .inLoop c) rfl (fun _ _ => .inl (by simp)) harr⟩
  obtain ⟨x, a', w', hq, harr⟩ := key k a e w ha h0
  exact ⟨x, a', w', hq, .of_steps (.one step_loop) harr⟩
end

end K
end Go.Proofs.Ytgdbbaggkoillaa
