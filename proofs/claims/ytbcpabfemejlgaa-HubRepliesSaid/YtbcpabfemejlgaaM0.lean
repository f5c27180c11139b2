/- The walk's own small logic, first part: environments as functions, the rules of the control code. -/
import Derived.Tactics
import Derived.OrdersHeld
import Derived.ScopeJumps
import Derived.Laws.Rows
import Derived.Laws.AppendOwn
import Derived.Deep.AppendSrc
import Derived.WalkKit
import Derived.Lib.AppendStr
namespace Go.Proofs.Ytbcpabfemejlgaa
namespace K

abbrev Env := Nat → Value

def upd (e : Env) (d : Nat) (v : Value) : Env := fun i => bif Nat.beq i d then v else e i
def up (e : Env) : Option Nat → Value → Env
  | none, _ => e
  | some d, v => upd e d v
def ev (e : Env) : Operand → Value
  | .tmp t => e t
  | .const v => v
  | .global g => .pointer (some ⟨g, 0, none⟩)
  | .func f => .func (.func f) #[] #[]
def envOf : List Value → Env
  | [], _ => undef
  | v :: _, 0 => v
  | _ :: l, i + 1 => envOf l i

structure Agr (N : Nat) (a : Act) (e : Env) : Prop where
  d : a.defers = []
  s : a.tmps.size = N
  g : ∀ i, a.tmps.getD i undef = e i

theorem Agr.eval {N : Nat} {a : Act} {e : Env} (h : Agr N a e) : a.eval = ev e := by
  funext x
  cases x with
  | tmp t => exact h.g t
  | _ => rfl

def dstOk (N : Nat) (o : Oper) : Bool := match o.dst with | none => true | some d => Nat.blt d N

theorem Agr.put {N : Nat} {a : Act} {e : Env} (h : Agr N a e) (o : Oper) (v : Value) (hd : dstOk N o = true) : Agr N (a.put o.dst v) (up e o.dst v) := by
  cases ho : o.dst with
  | none => exact h
  | some d =>
    have hlt : d < N := by
      have := hd
      simp only [dstOk, ho] at this
      rw [Nat.blt_eq] at this
      exact this
    refine ⟨h.d, by simp [Act.put, h.s], fun i => ?_⟩
    have hg := h.g i
    simp only [Act.put, up, upd]
    by_cases hid : i = d
    · subst hid
      simp [hlt, h.s]
    · have : Nat.beq i d = false := by
        rcases hb : Nat.beq i d with _ | _
        · rfl
        · exact absurd (Nat.eq_of_beq_eq_true hb) hid
      rw [this]
      simp only [cond_false]
      simp only [Array.getD_eq_getD_getElem?] at hg ⊢
      rw [Array.getElem?_setIfInBounds_ne (Ne.symm hid)]
      exact hg

/-- What an operation does, over an environment: it yields a value, stores, or enters a function that returns. -/
def OwpE (P : Program) (o : Oper) (e : Env) (w : World) (K : Value → World → Prop) : Prop :=
  match (execOp (ev e) o).run P w with
  | .ok (.value v) w' => K v w'
  | .ok .skip w' => K undef w'
  | .ok (.enter f args) w' => Calls P f args w' (fun r w'' => ∃ v, r = .returned v ∧ K v w'')
  | _ => False

theorem OwpE.wp {P : Program} {o : Oper} {e : Env} {w : World} {K : Value → World → Prop} {N : Nat} {a : Act} {K' : Act → World → Prop} {Q : Exit → Act → World → Prop}
    (ha : Agr N a e) (h : OwpE P o e w K) (hk : ∀ v w', K v w' → K' (a.put o.dst v) w') : o.wp P a w K' Q := by
  unfold OwpE at h
  unfold Oper.wp
  rw [ha.eval]
  generalize (execOp (ev e) o).run P w = r at *
  cases r with
  | ok n w' =>
    cases n <;> simp only [Oper.upon] at h ⊢
    case value v => exact hk _ _ h
    case skip => exact hk _ _ h
    case enter f args =>
      refine Calls.mono h fun x w'' hx => ?_
      obtain ⟨v, rfl, hv⟩ := hx
      exact hk _ _ hv
    all_goals exact h.elim
  | halt x w' => exact h.elim

theorem OwpE.mono {P : Program} {o : Oper} {e : Env} {w : World} {K K' : Value → World → Prop} (h : OwpE P o e w K) (hk : ∀ v w', K v w' → K' v w') : OwpE P o e w K' := by
  unfold OwpE at *
  generalize (execOp (ev e) o).run P w = r at *
  cases r with
  | ok n w' =>
    cases n <;> simp only at h ⊢
    case value v => exact hk _ _ h
    case skip => exact hk _ _ h
    case enter f args => exact Calls.mono h fun x w'' ⟨v, hv, hw⟩ => ⟨v, hv, hk _ _ hw⟩
    all_goals exact h
  | halt x w' => exact h

def nth {α : Type} : List α → Nat → Option α
  | [], _ => none
  | x :: _, 0 => some x
  | _ :: l, n + 1 => nth l n
theorem nth_eq {α : Type} : ∀ (l : List α) (n : Nat), nth l n = l[n]?
  | [], _ => rfl
  | x :: _, 0 => rfl
  | _ :: l, n + 1 => by rw [nth, nth_eq l n]; rfl
/-- The slot that operation j writes. -/
def gd (l0 : List Oper) (j : Nat) : Option Nat := match nth l0 j with | some o => o.dst | none => none
def gslot (l0 : List Oper) (e : Env) (j : Nat) : Option Bool :=
  match gd l0 j with
  | some t => (match e t with | .bool b => some b | _ => none)
  | none => none
def wantedE (l0 : List Oper) (o : Oper) (e : Env) : Bool := Region.wanted o (gslot l0 e)

theorem Agr.gs {N : Nat} {a : Act} {e : Env} (h : Agr N a e) (l0 : List Oper) : Go.yielded l0.toArray a.tmps = gslot l0 e := by
  funext j
  unfold Go.yielded gslot gd
  rw [List.getElem?_toArray, ← nth_eq]
  cases nth l0 j with
  | none => rfl
  | some o =>
    simp only [Option.bind_some]
    cases o.dst with
    | none => rfl
    | some t =>
      have hg := h.g t
      simp only [Option.bind_some]
      rw [← hg]
      by_cases ht : t < a.tmps.size
      · simp only [Array.getD_eq_getD_getElem?, Array.getElem?_eq_getElem ht, Option.getD_some]
        cases a.tmps[t] <;> rfl
      · simp only [Array.getD_eq_getD_getElem?, Array.getElem?_eq_none (Nat.le_of_not_lt ht), Option.getD_none]
        rfl

theorem Agr.wanted {N : Nat} {a : Act} {e : Env} (h : Agr N a e) (l0 : List Oper) (o : Oper) : Region.wanted o (Go.yielded l0.toArray a.tmps) = wantedE l0 o e := by
  unfold wantedE
  rw [h.gs]

/-- A list of operations in the text's order. -/
def wlE (P : Program) (l0 : List Oper) (Q : Env → World → Prop) : List Oper → Env → World → Prop
  | [], e, w => Q e w
  | o :: rest, e, w => bif wantedE l0 o e then OwpE P o e w (fun v w' => wlE P l0 Q rest (up e o.dst v) w') else wlE P l0 Q rest (up e o.dst undef) w

theorem wlE.sound {P : Program} {l0 : List Oper} {Q : Env → World → Prop} {N : Nat} {Q' : Exit → Act → World → Prop}
    (hq : ∀ a e w, Agr N a e → Q e w → Q' .normal a w) : ∀ (l : List Oper) (e : Env) (w : World) (a : Act), l.all (dstOk N) = true → Agr N a e → wlE P l0 Q l e w → wpList P l0.toArray Q' l a w
  | [], e, w, a, _, ha, h => hq a e w ha h
  | o :: rest, e, w, a, hd, ha, h => by
    simp only [List.all_cons, Bool.and_eq_true] at hd
    unfold wpList
    rw [ha.wanted]
    simp only [wlE] at h
    cases hw : wantedE l0 o e with
    | true =>
      rw [hw] at h
      simp only [cond_true] at h
      rw [if_pos rfl]
      exact .inl (OwpE.wp ha h fun v w' hv => wlE.sound hq rest _ w' _ hd.2 (ha.put o v hd.1) hv)
    | false =>
      rw [hw] at h
      simp only [cond_false] at h
      rw [if_neg (by simp)]
      exact wlE.sound hq rest _ w _ hd.2 (ha.put o undef hd.1) h

/-! ### Code: Rt is what a return asks, Q what the other ends ask. -/
abbrev Post := Exit → Env → World → Prop

def endE (Rt : Env → World → Prop) (Q : Post) : Post
  | .ret, e, w => Rt e w
  | x, e, w => Q x e w
def wpE (P : Program) (N : Nat) (Rt : Env → World → Prop) (c : Code) (Q : Post) (e : Env) (w : World) : Prop :=
  ∀ a, Agr N a e → c.wp P (fun x a' w' => ∃ e', Agr N a' e' ∧ endE Rt Q x e' w') a w

def thn (K : Env → World → Prop) (Q : Post) : Post
  | .normal, e, w => K e w
  | x, e, w => Q x e w
def blk (id : Nat) (Q : Post) : Post
  | .exit id', e, w => bif Nat.beq id' id then Q .normal e w else Q (.exit id') e w
  | x, e, w => Q x e w

section
variable {P : Program} {N : Nat} {Rt : Env → World → Prop} {Q : Post} {e : Env} {w : World}

/-! ends of a piece of code -/
theorem t_n {K : Env → World → Prop} (h : K e w) : thn K Q .normal e w := h
theorem t_x {K : Env → World → Prop} {id : Nat} (h : Q (.exit id) e w) : thn K Q (.exit id) e w := h
theorem t_g {K : Env → World → Prop} {id : Nat} (h : Q (.goto id) e w) : thn K Q (.goto id) e w := h
theorem b_n {id : Nat} (h : Q .normal e w) : blk id Q .normal e w := h
theorem b_g {id l : Nat} (h : Q (.goto l) e w) : blk id Q (.goto l) e w := h
theorem b_x {id : Nat} (h : Q .normal e w) : blk id Q (.exit id) e w := by
  show bif Nat.beq id id then Q .normal e w else Q (.exit id) e w
  rw [Nat.beq_refl]; exact h
theorem b_y {id id' : Nat} (hn : Nat.beq id' id = false) (h : Q (.exit id') e w) : blk id Q (.exit id') e w := by
  show bif Nat.beq id' id then Q .normal e w else Q (.exit id') e w
  rw [hn]; exact h
theorem b_tn {id : Nat} {K : Env → World → Prop} (h : K e w) : blk id (thn K Q) .normal e w := h
theorem b_tx {id : Nat} {K : Env → World → Prop} (h : K e w) : blk id (thn K Q) (.exit id) e w := b_x h

theorem c_seq {x y : Code} (h : wpE P N Rt x (thn (wpE P N Rt y Q) Q) e w) : wpE P N Rt (.seq x y) Q e w := by
  intro a ha
  refine wp_seq (wp_mono (h a ha) fun x a' w' hx => ?_)
  obtain ⟨e', ha', hq⟩ := hx
  cases x with
  | normal => exact hq a' ha'
  | _ => exact ⟨e', ha', hq⟩
theorem c_skip (h : Q .normal e w) : wpE P N Rt .skip Q e w := fun _ ha => wp_skip ⟨e, ha, h⟩
theorem c_ret (h : Rt e w) : wpE P N Rt .ret Q e w := fun _ ha => wp_ret ⟨e, ha, h⟩
theorem c_exit {id : Nat} (h : Q (.exit id) e w) : wpE P N Rt (.exit id) Q e w := fun _ ha => wp_exit ⟨e, ha, h⟩
theorem c_goto {l : Nat} (h : Q (.goto l) e w) : wpE P N Rt (.goto l) Q e w := fun _ ha => wp_goto ⟨e, ha, h⟩
theorem c_label {l : Nat} (h : Q .normal e w) : wpE P N Rt (.label l) Q e w := fun _ ha => wp_label ⟨e, ha, h⟩
theorem c_cond {c : Operand} {x y : Code} {t : Bool} (hc : ev e c = .bool t) (ht : t = true → wpE P N Rt x Q e w) (hf : t = false → wpE P N Rt y Q e w) : wpE P N Rt (.cond c x y) Q e w := by
  intro a ha
  have hc' : a.eval c = .bool t := by rw [ha.eval]; exact hc
  cases t with
  | true => exact wp_cond_true hc' (ht rfl a ha)
  | false => exact wp_cond_false hc' (hf rfl a ha)
theorem c_block {id : Nat} {c : Code} (h : wpE P N Rt c (blk id Q) e w) : wpE P N Rt (.block id c) Q e w := by
  intro a ha
  refine wp_block (wp_mono (h a ha) fun x a' w' hx => ?_)
  obtain ⟨e', ha', hq⟩ := hx
  cases x with
  | exit id' =>
    simp only [Exit.inBlock]
    by_cases hid : id' = id
    · subst hid
      simp only [endE, blk, Nat.beq_refl, cond_true] at hq
      rw [if_pos rfl]
      exact ⟨e', ha', hq⟩
    · have : Nat.beq id' id = false := by
        rcases hb : Nat.beq id' id with _ | _
        · rfl
        · exact absurd (Nat.eq_of_beq_eq_true hb) hid
      simp only [endE, blk, this, cond_false] at hq
      rw [if_neg hid]
      exact ⟨e', ha', hq⟩
  | _ => exact ⟨e', ha', hq⟩
theorem c_region {id : Nat} {l : List Oper} (hd : l.all (dstOk N) = true) (h : wlE P l (fun e w => Q .normal e w) l e w) : wpE P N Rt (.region id l.toArray false) Q e w := by
  intro a ha
  exact wp_region_lit (wlE.sound (fun a e w ha hq => ⟨e, ha, hq⟩) l e w a hd ha h)
theorem c_sreg {id : Nat} {l : List Oper} {y : Code} (hd : l.all (dstOk N) = true) (h : wlE P l (fun e w => wpE P N Rt y Q e w) l e w) : wpE P N Rt (.seq (.region id l.toArray false) y) Q e w := c_seq (c_region hd h)
theorem c_sif {c : Operand} {x y : Code} {t : Bool} (hc : ev e c = .bool t) (ht : t = true → wpE P N Rt x (thn (wpE P N Rt y Q) Q) e w) (hf : t = false → wpE P N Rt y Q e w) : wpE P N Rt (.seq (.cond c x .skip) y) Q e w := c_seq (c_cond hc ht (fun h => c_skip (hf h)))
theorem c_sife {c : Operand} {x x' y : Code} {t : Bool} (hc : ev e c = .bool t) (ht : t = true → wpE P N Rt x (thn (wpE P N Rt y Q) Q) e w) (hf : t = false → wpE P N Rt x' (thn (wpE P N Rt y Q) Q) e w) : wpE P N Rt (.seq (.cond c x x') y) Q e w := c_seq (c_cond hc ht hf)
/-- A loop's test: go on, or leave block id. -/
theorem c_test {c : Operand} {id : Nat} {y : Code} {t : Bool} (hc : ev e c = .bool t) (ht : t = true → wpE P N Rt y Q e w) (hf : t = false → Q (.exit id) e w) : wpE P N Rt (.seq (.cond c .skip (.exit id)) y) Q e w := c_seq (c_cond hc (fun h => c_skip (ht h)) (fun h => c_exit (hf h)))
theorem c_sblock {id : Nat} {c y : Code} (h : wpE P N Rt c (blk id (thn (wpE P N Rt y Q) Q)) e w) : wpE P N Rt (.seq (.block id c) y) Q e w := c_seq (c_block h)
theorem c_mono {c : Code} {Q' : Post} (h : wpE P N Rt c Q e w) (hq : ∀ x e w, Q x e w → Q' x e w) : wpE P N Rt c Q' e w :=
  fun a ha => wp_mono (h a ha) fun x _ _ ⟨e', ha', hx⟩ => ⟨e', ha', by cases x <;> first | exact hx | exact hq _ e' _ hx⟩

/-- What holds between two pieces of code, whichever way the first one went. -/
theorem c_mid {x y : Code} (M : Env → World → Prop) (h : wpE P N Rt x (thn M Q) e w) (k : ∀ e w, M e w → wpE P N Rt y Q e w) : wpE P N Rt (.seq x y) Q e w :=
  c_seq (c_mono h fun x e w hx => by cases x <;> first | exact k e w hx | exact hx)

theorem c_mid0 {x : Code} {K : Env → World → Prop} (M : Env → World → Prop) (h : wpE P N Rt x (thn M Q) e w) (k : ∀ e w, M e w → K e w) : wpE P N Rt x (thn K Q) e w :=
  c_mono h fun x e w hx => by cases x <;> first | exact k e w hx | exact hx

/-- A loop: what holds at each round's head, by a number that every round lowers. -/
theorem c_loop {c : Code} (I : Nat → Env → World → Prop) (k : Nat) (h0 : I k e w)
    (round : ∀ k e w, I k e w → wpE P N Rt c (thn (fun e' w' => ∃ k', k' < k ∧ I k' e' w') Q) e w) : wpE P N Rt (.loop c) Q e w := by
  intro a ha b kk cs
  have key : ∀ n a e w, Agr N a e → I n e w →
      ∃ x a' w', (∃ e', Agr N a' e' ∧ endE Rt Q x e' w') ∧ Arrives P (lone (b.at a (.code c :: .inLoop c :: kk)) cs w) b kk cs x a' w' := by
    intro n
    induction n using Nat.strongRecOn with
    | _ n ih =>
      intro a e w ha hI
      obtain ⟨x, a₁, w₁, ⟨e₁, ha₁, hq⟩, harr⟩ := round n e w hI a ha b (.inLoop c :: kk) cs
      cases x with
      | normal =>
        obtain ⟨n', hlt, hI'⟩ := hq
        obtain ⟨x₂, a₂, w₂, hq₂, harr₂⟩ := ih n' hlt a₁ e₁ w₁ ha₁ hI'
        exact ⟨x₂, a₂, w₂, hq₂, .of_steps (Steps.trans harr (.one step_inLoop)) harr₂⟩
      | exit id => exact ⟨.exit id, a₁, w₁, ⟨e₁, ha₁, hq⟩, .pass (x := .inLoop c) rfl (fun _ _ => .inl (by simp)) harr⟩
      | goto l => exact ⟨.goto l, a₁, w₁, ⟨e₁, ha₁, hq⟩, .pass (x := .inLoop c) rfl (fun _ _ => .inl (by simp)) harr⟩
      | ret => exact ⟨.ret, a₁, w₁, ⟨e₁, ha₁, hq⟩, .pass (x := .inLoop c) rfl (fun _ _ => .inl (by simp)) harr⟩
      | panic ch => exact ⟨.panic ch, a₁, w₁, ⟨e₁, ha₁, hq⟩, .pass (x := .inLoop c) rfl (fun _ _ => .inl (by simp)) harr⟩
      | outgrown => exact ⟨.outgrown, a₁, w₁, ⟨e₁, ha₁, hq⟩, .pass (x := .inLoop c) rfl (fun _ _ => .inl (by simp)) harr⟩
  obtain ⟨x, a', w', hq, harr⟩ := key k a e w ha h0
  exact ⟨x, a', w', hq, .of_steps (.one step_loop) harr⟩
end

end K
end Go.Proofs.Ytbcpabfemejlgaa
/- The walk's own small logic, second part: memory as a list of items that lie apart. -/
namespace Go.Proofs.Ytbcpabfemejlgaa
namespace K

/-- From w to w' nothing below w's size has turned but what F names. -/
structure Chg (F : Nat → Prop) (w w' : World) : Prop where
  os : w'.os = w.os
  tape : w'.tape = w.tape
  output : w'.output = w.output
  size : w.heap.size ≤ w'.heap.size
  same : ∀ b, b < w.heap.size → ¬ F b → w'.heap[b]? = w.heap[b]?
def No : Nat → Prop := fun _ => False

theorem Chg.refl (F : Nat → Prop) (w : World) : Chg F w w := ⟨rfl, rfl, rfl, Nat.le_refl _, fun _ _ _ => rfl⟩
theorem Chg.trans' {F G H : Nat → Prop} {w w' w'' : World} (h : Chg F w w') (k : Chg G w' w'') (hF : ∀ b, b < w.heap.size → F b → H b) (hG : ∀ b, b < w.heap.size → G b → H b) : Chg H w w'' :=
  ⟨k.os.trans h.os, k.tape.trans h.tape, k.output.trans h.output, Nat.le_trans h.size k.size, fun b hb hn =>
    (k.same b (Nat.lt_of_lt_of_le hb h.size) (fun hg => hn (hG b hb hg))).trans (h.same b hb (fun hf => hn (hF b hb hf)))⟩
theorem Chg.trans {F : Nat → Prop} {w w' w'' : World} (h : Chg F w w') (k : Chg F w' w'') : Chg F w w'' := h.trans' k (fun _ _ h => h) (fun _ _ h => h)
theorem Chg.mono {F G : Nat → Prop} {w w' : World} (h : Chg F w w') (hF : ∀ b, F b → G b) : Chg G w w' :=
  ⟨h.os, h.tape, h.output, h.size, fun b hb hn => h.same b hb (fun hf => hn (hF b hf))⟩
theorem Chg.of_no {G : Nat → Prop} {w w' : World} (h : Chg No w w') : Chg G w w' := h.mono (fun _ h => h.elim)
theorem Chg.alloc (F : Nat → Prop) (w : World) (o : Obj) : Chg F w (w.alloc o) :=
  ⟨rfl, rfl, rfl, by simp, fun k hk _ => (by first | exact heap_alloc_old w o k hk | exact heap_alloc_old w o hk)⟩
theorem Chg.drawn (F : Nat → Prop) (w : World) (n : Nat) : Chg F w { w with drawn := n } := ⟨rfl, rfl, rfl, Nat.le_refl _, fun _ _ _ => rfl⟩
theorem Chg.grown {w w' : World} {r : Option Nat} (h : w.grownBy w' r) : Chg (fun b => r = some b) w w' :=
  ⟨h.os, h.tape, h.output, h.size, fun b hb hn => h.block b hb (fun e => hn e.symm)⟩
theorem Chg.cell {F : Nat → Prop} {w w' : World} (h : Chg F w w') {a : Addr} {v : Value} (hc : w.cell? a = some v) (hn : ¬ F a.block) : w'.cell? a = some v :=
  (World.cell?_of_block (h.same a.block (World.block_lt_of_cell? w a hc) hn)).trans hc

structure It where
  foot : Nat → Prop
  holds : World → Prop
  keep : ∀ w w', holds w → (∀ b, foot b → w'.heap[b]? = w.heap[b]?) → holds w'
  live : ∀ w b, holds w → foot b → b < w.heap.size

/-- A block that is known whole. -/
def bk (b : Nat) (cs : List Value) (T : TypeId) : It where
  foot := fun k => k = b
  holds := fun w => w.heap[b]? = some (.cells cs.toArray T (0, 0))
  keep := fun w w' h hk => (hk b rfl).trans h
  live := fun w k h hk => by subst hk; exact (Array.getElem?_eq_some_iff.1 h).1

/-- A slice of one's own, n elements of sz cells, with these cells. -/
def own (T : TypeId) (sz : Nat) (a : Option Addr) (n c : Nat) (cs : List Value) : It where
  foot := fun k => a.map (·.block) = some k
  holds := fun w => w.ownsRow 0 T sz (.slice a n c) n cs
  keep := fun w w' h hk => by
    refine ⟨h.1, ?_⟩
    rcases h.2 with hn | ⟨g, cap, cur, hv, hb, hg, rest⟩
    · exact .inl hn
    · refine .inr ⟨g, cap, cur, hv, hb, ?_, rest⟩
      injection hv with h1 _ _
      rw [hk g (by rw [h1]; rfl)]
      exact hg
  live := fun w k h hk => by
    rcases h.2 with ⟨hv, _⟩ | ⟨g, cap, cur, hv, hb, hg, rest⟩
    · injection hv with h1 _ _
      rw [h1] at hk; cases hk
    · injection hv with h1 _ _
      rw [h1] at hk
      simp only [Option.map_some, Option.some.injEq] at hk
      subst hk
      exact (Array.getElem?_eq_some_iff.1 hg).1

def setN {α : Type} : List α → Nat → α → List α
  | [], _, _ => []
  | _ :: l, 0, y => y :: l
  | x :: l, n + 1, y => x :: setN l n y
theorem setN_eq {α : Type} : ∀ (l : List α) (n : Nat) (y : α), setN l n y = l.set n y
  | [], _, _ => rfl
  | x :: _, 0, _ => rfl
  | _ :: l, n + 1, y => by rw [setN, setN_eq l n y]; rfl
theorem nth_setN {α : Type} (l : List α) (k : Nat) (y x : α) (i : Nat) (h : nth (setN l k y) i = some x) : (i = k ∧ x = y) ∨ (i ≠ k ∧ nth l i = some x) := by
  rw [nth_eq, setN_eq, List.getElem?_set] at h
  by_cases hk : k = i
  · subst hk
    rw [if_pos rfl] at h
    split at h
    · injection h with h; exact .inl ⟨rfl, h.symm⟩
    · cases h
  · rw [if_neg hk] at h
    exact .inr ⟨Ne.symm hk, by rw [nth_eq]; exact h⟩
theorem nth_snoc {α : Type} (l : List α) (y x : α) (i : Nat) (h : nth (l ++ [y]) i = some x) : (i = l.length ∧ x = y) ∨ (i < l.length ∧ nth l i = some x) := by
  rw [nth_eq] at h
  by_cases hk : i < l.length
  · rw [List.getElem?_append_left hk] at h
    exact .inr ⟨hk, by rw [nth_eq]; exact h⟩
  · rw [List.getElem?_append_right (by omega)] at h
    have : i - l.length = 0 := by
      rcases Nat.eq_zero_or_pos (i - l.length) with h' | h'
      · exact h'
      · rw [List.getElem?_eq_none (by simp; omega)] at h; cases h
    rw [this] at h
    injection h with h
    exact .inl ⟨by omega, h.symm⟩
theorem nth_lt {α : Type} (l : List α) (i : Nat) (x : α) (h : nth l i = some x) : i < l.length := by
  rw [nth_eq] at h
  exact (List.getElem?_eq_some_iff.1 h).1

structure Mem (w0 : World) (F0 : Nat → Prop) (w : World) (L : List It) : Prop where
  chg : Chg F0 w0 w
  ok : ∀ i x, nth L i = some x → x.holds w
  mine : ∀ i x, nth L i = some x → ∀ b, x.foot b → F0 b ∨ w0.heap.size ≤ b
  dis : ∀ i j x y, nth L i = some x → nth L j = some y → i ≠ j → ∀ b, x.foot b → ¬ y.foot b

section
variable {w0 w w' : World} {F0 : Nat → Prop} {L : List It}

theorem Mem.nil (F0 : Nat → Prop) (w : World) : Mem w F0 w [] := by
  refine ⟨Chg.refl _ _, ?_, ?_, ?_⟩
  · intro i x h; cases h
  · intro i x h; cases h
  · intro i j x y h; cases h
theorem nth_one {α : Type} {J x : α} {i : Nat} (h : nth [J] i = some x) : i = 0 ∧ x = J := by
  rcases i with _ | i
  · injection h with h; exact ⟨rfl, h.symm⟩
  · cases h
theorem nth_two {α : Type} {J J' x : α} {i : Nat} (h : nth [J, J'] i = some x) : (i = 0 ∧ x = J) ∨ (i = 1 ∧ x = J') := by
  rcases i with _ | _ | i
  · injection h with h; exact .inl ⟨rfl, h.symm⟩
  · injection h with h; exact .inr ⟨rfl, h.symm⟩
  · cases h
/-- One item that was handed in. -/
theorem Mem.one {w : World} {J : It} (h : J.holds w) : Mem w J.foot w [J] := by
  refine ⟨Chg.refl _ _, ?_, ?_, ?_⟩
  · intro i x hx
    obtain ⟨_, rfl⟩ := nth_one hx
    exact h
  · intro i x hx b hb
    obtain ⟨_, rfl⟩ := nth_one hx
    exact .inl hb
  · intro i j x y hx hy hne
    obtain ⟨hi, _⟩ := nth_one hx
    obtain ⟨hj, _⟩ := nth_one hy
    exact absurd (hi.trans hj.symm) hne
/-- Two items that were handed in. -/
theorem Mem.two {w : World} {J J' : It} (h : J.holds w) (h' : J'.holds w) (hd : ∀ b, J.foot b → ¬ J'.foot b) : Mem w (fun b => J.foot b ∨ J'.foot b) w [J, J'] := by
  refine ⟨Chg.refl _ _, ?_, ?_, ?_⟩
  · intro i x hx
    rcases nth_two hx with ⟨_, rfl⟩ | ⟨_, rfl⟩
    · exact h
    · exact h'
  · intro i x hx b hb
    rcases nth_two hx with ⟨_, rfl⟩ | ⟨_, rfl⟩
    · exact .inl (.inl hb)
    · exact .inl (.inr hb)
  · intro i j x y hx hy hne b hb hb'
    rcases nth_two hx with ⟨hi, rfl⟩ | ⟨hi, rfl⟩ <;> rcases nth_two hy with ⟨hj, rfl⟩ | ⟨hj, rfl⟩
    · exact hne (hi.trans hj.symm)
    · exact hd b hb hb'
    · exact hd b hb' hb
    · exact hne (hi.trans hj.symm)

theorem Mem.frame (m : Mem w0 F0 w L) (h : Chg No w w') : Mem w0 F0 w' L :=
  ⟨m.chg.trans h.of_no, fun i x hx => x.keep w w' (m.ok i x hx) (fun b hb => h.same b (x.live w b (m.ok i x hx) hb) (fun h => h)), m.mine, m.dis⟩

/-- An item more, in new blocks. -/
theorem Mem.add (m : Mem w0 F0 w L) {J : It} (h : Chg No w w') (hJ : J.holds w') (hf : ∀ b, J.foot b → w.heap.size ≤ b) : Mem w0 F0 w' (L ++ [J]) := by
  have m' := m.frame h
  refine ⟨m'.chg, fun i x hx => ?_, fun i x hx => ?_, fun i j x y hx hy hne b hb hb' => ?_⟩
  · rcases nth_snoc L J x i hx with ⟨_, rfl⟩ | ⟨_, hx⟩
    · exact hJ
    · exact m'.ok i x hx
  · rcases nth_snoc L J x i hx with ⟨_, rfl⟩ | ⟨_, hx⟩
    · exact fun b hb => .inr (Nat.le_trans m.chg.size (hf b hb))
    · exact m'.mine i x hx
  · rcases nth_snoc L J x i hx with ⟨hi, hxJ⟩ | ⟨_, hx2⟩
    · rcases nth_snoc L J y j hy with ⟨hj, hyJ⟩ | ⟨_, hy2⟩
      · exact hne (hi.trans hj.symm)
      · have := y.live w b (m.ok j y hy2) hb'
        rw [hxJ] at hb
        have := hf b hb
        omega
    · rcases nth_snoc L J y j hy with ⟨hj, hyJ⟩ | ⟨_, hy2⟩
      · have := x.live w b (m.ok i x hx2) hb
        rw [hyJ] at hb'
        have := hf b hb'
        omega
      · exact m.dis i j x y hx2 hy2 hne b hb hb'

/-- Item k turned into J. -/
theorem Mem.turn (m : Mem w0 F0 w L) {I J : It} (k : Nat) (hk : nth L k = some I) (h : Chg I.foot w w') (hJ : J.holds w') (hf : ∀ b, J.foot b → I.foot b ∨ w.heap.size ≤ b) : Mem w0 F0 w' (setN L k J) := by
  have old : ∀ i x, i ≠ k → nth L i = some x → x.holds w' := fun i x hne hx =>
    x.keep w w' (m.ok i x hx) (fun b hb => h.same b (x.live w b (m.ok i x hx) hb) (fun hI => m.dis i k x I hx hk hne b hb hI))
  have apart : ∀ i x, i ≠ k → nth L i = some x → ∀ b, x.foot b → ¬ J.foot b := fun i x hne hx b hb hJb => by
    rcases hf b hJb with hI | hlt
    · exact m.dis i k x I hx hk hne b hb hI
    · have := x.live w b (m.ok i x hx) hb
      omega
  refine ⟨m.chg.trans' h (fun _ _ h => h) (fun b hb hI => ?_), fun i x hx => ?_, fun i x hx => ?_, fun i j x y hx hy hne b hb hb' => ?_⟩
  · rcases m.mine k I hk b hI with h' | h'
    · exact h'
    · omega
  · rcases nth_setN L k J x i hx with ⟨_, rfl⟩ | ⟨hne, hx⟩
    · exact hJ
    · exact old i x hne hx
  · rcases nth_setN L k J x i hx with ⟨_, rfl⟩ | ⟨hne, hx⟩
    · intro b hb
      rcases hf b hb with hI | hlt
      · exact m.mine k I hk b hI
      · exact .inr (Nat.le_trans m.chg.size hlt)
    · exact m.mine i x hx
  · rcases nth_setN L k J x i hx with ⟨hi, hxJ⟩ | ⟨hni, hx2⟩
    · rcases nth_setN L k J y j hy with ⟨hj, hyJ⟩ | ⟨hnj, hy2⟩
      · exact hne (hi.trans hj.symm)
      · exact apart j y hnj hy2 b hb' (hxJ ▸ hb)
    · rcases nth_setN L k J y j hy with ⟨hj, hyJ⟩ | ⟨hnj, hy2⟩
      · exact apart i x hni hx2 b hb (hyJ ▸ hb')
      · exact m.dis i j x y hx2 hy2 hne b hb hb'

/-- Two items turned at once. -/
theorem Mem.turn2 (m : Mem w0 F0 w L) {I I' J J' : It} (k k' : Nat) (hk : nth L k = some I) (hk' : nth L k' = some I') (hkk : k ≠ k') (h : Chg (fun b => I.foot b ∨ I'.foot b) w w') (hJ : J.holds w') (hJ' : J'.holds w')
    (hf : ∀ b, J.foot b → (I.foot b ∨ I'.foot b) ∨ w.heap.size ≤ b) (hf' : ∀ b, J'.foot b → (I.foot b ∨ I'.foot b) ∨ w.heap.size ≤ b) (hd : ∀ b, J.foot b → ¬ J'.foot b) : Mem w0 F0 w' (setN (setN L k J) k' J') := by
  have old : ∀ i x, i ≠ k → i ≠ k' → nth L i = some x → x.holds w' := fun i x hne hne' hx =>
    x.keep w w' (m.ok i x hx) (fun b hb => h.same b (x.live w b (m.ok i x hx) hb) (fun hI => hI.elim (m.dis i k x I hx hk hne b hb) (m.dis i k' x I' hx hk' hne' b hb)))
  have apart : ∀ i x, i ≠ k → i ≠ k' → nth L i = some x → ∀ b, x.foot b → ¬ ((I.foot b ∨ I'.foot b) ∨ w.heap.size ≤ b) := fun i x hne hne' hx b hb hJb => by
    rcases hJb with (hI | hI) | hlt
    · exact m.dis i k x I hx hk hne b hb hI
    · exact m.dis i k' x I' hx hk' hne' b hb hI
    · have := x.live w b (m.ok i x hx) hb
      omega
  have three : ∀ i x, nth (setN (setN L k J) k' J') i = some x → (i = k' ∧ x = J') ∨ (i = k ∧ x = J) ∨ (i ≠ k ∧ i ≠ k' ∧ nth L i = some x) := fun i x hx => by
    rcases nth_setN _ k' J' x i hx with ⟨hi, rfl⟩ | ⟨hne, hx⟩
    · exact .inl ⟨hi, rfl⟩
    · rcases nth_setN L k J x i hx with ⟨hi, rfl⟩ | ⟨hne', hx⟩
      · exact .inr (.inl ⟨hi, rfl⟩)
      · exact .inr (.inr ⟨hne', hne, hx⟩)
  have mineI : ∀ b, (I.foot b ∨ I'.foot b) ∨ w.heap.size ≤ b → F0 b ∨ w0.heap.size ≤ b := fun b hb => by
    rcases hb with (hI | hI) | hlt
    · exact m.mine k I hk b hI
    · exact m.mine k' I' hk' b hI
    · exact .inr (Nat.le_trans m.chg.size hlt)
  refine ⟨m.chg.trans' h (fun _ _ h => h) (fun b hb hI => (mineI b (.inl hI)).resolve_right (by omega)), fun i x hx => ?_, fun i x hx => ?_, fun i j x y hx hy hne b hb hb' => ?_⟩
  · rcases three i x hx with ⟨_, rfl⟩ | ⟨_, rfl⟩ | ⟨h1, h2, hx⟩
    · exact hJ'
    · exact hJ
    · exact old i x h1 h2 hx
  · rcases three i x hx with ⟨_, rfl⟩ | ⟨_, rfl⟩ | ⟨h1, h2, hx⟩
    · exact fun b hb => mineI b (hf' b hb)
    · exact fun b hb => mineI b (hf b hb)
    · exact m.mine i x hx
  · rcases three i x hx with ⟨hi, e1⟩ | ⟨hi, e1⟩ | ⟨h1, h2, hx2⟩
    · rcases three j y hy with ⟨hj, e2⟩ | ⟨hj, e2⟩ | ⟨g1, g2, hy2⟩
      · exact hne (hi.trans hj.symm)
      · exact hd b (e2 ▸ hb') (e1 ▸ hb)
      · exact apart j y g1 g2 hy2 b hb' (hf' b (e1 ▸ hb))
    · rcases three j y hy with ⟨hj, e2⟩ | ⟨hj, e2⟩ | ⟨g1, g2, hy2⟩
      · exact hd b (e1 ▸ hb) (e2 ▸ hb')
      · exact hne (hi.trans hj.symm)
      · exact apart j y g1 g2 hy2 b hb' (hf b (e1 ▸ hb))
    · rcases three j y hy with ⟨hj, e2⟩ | ⟨hj, e2⟩ | ⟨g1, g2, hy2⟩
      · exact apart i x h1 h2 hx2 b hb (hf' b (e2 ▸ hb'))
      · exact apart i x h1 h2 hx2 b hb (hf b (e2 ▸ hb'))
      · exact m.dis i j x y hx2 hy2 hne b hb hb'

/-- What a call did to the one item, or the two, that it was handed. -/
theorem Mem.lift1 (m : Mem w0 F0 w L) {I J : It} (k : Nat) (hk : nth L k = some I) (mm : Mem w I.foot w' [J]) : Mem w0 F0 w' (setN L k J) :=
  m.turn k hk mm.chg (mm.ok 0 J rfl) (mm.mine 0 J rfl)
theorem Mem.lift2 (m : Mem w0 F0 w L) {I I' J J' : It} (k k' : Nat) (hk : nth L k = some I) (hk' : nth L k' = some I') (hkk : k ≠ k') (mm : Mem w (fun b => I.foot b ∨ I'.foot b) w' [J, J']) : Mem w0 F0 w' (setN (setN L k J) k' J') :=
  m.turn2 k k' hk hk' hkk mm.chg (mm.ok 0 J rfl) (mm.ok 1 J' rfl) (mm.mine 0 J rfl) (mm.mine 1 J' rfl) (mm.dis 0 1 J J' rfl rfl (by decide))
theorem Mem.pick1 (m : Mem w0 F0 w L) {I : It} (k : Nat) (hk : nth L k = some I) : Mem w I.foot w [I] := Mem.one (m.ok k I hk)
theorem Mem.pick2 (m : Mem w0 F0 w L) {I I' : It} (k k' : Nat) (hk : nth L k = some I) (hk' : nth L k' = some I') (hkk : k ≠ k') : Mem w (fun b => I.foot b ∨ I'.foot b) w [I, I'] :=
  Mem.two (m.ok k I hk) (m.ok k' I' hk') (m.dis k k' I I' hk hk' hkk)
/-- A part of the items alone. -/
theorem Mem.sub (m : Mem w0 F0 w L) (ks : List Nat) (L' : List It) (hn : ks.Nodup) (h : L'.map some = ks.map (nth L)) : Mem w0 F0 w L' := by
  have get : ∀ i x, nth L' i = some x → ∃ k, ks[i]? = some k ∧ nth L k = some x := fun i x hx => by
    rw [nth_eq] at hx
    have h1 : (L'.map some)[i]? = some (some x) := by rw [List.getElem?_map, hx]; rfl
    rw [h, List.getElem?_map] at h1
    cases hk : ks[i]? with
    | none => rw [hk] at h1; cases h1
    | some k => rw [hk] at h1; injection h1 with h1; exact ⟨k, rfl, h1⟩
  refine ⟨m.chg, fun i x hx => ?_, fun i x hx => ?_, fun i j x y hx hy hne => ?_⟩
  · obtain ⟨k, _, hk⟩ := get i x hx; exact m.ok k x hk
  · obtain ⟨k, _, hk⟩ := get i x hx; exact m.mine k x hk
  · obtain ⟨k, hik, hk⟩ := get i x hx
    obtain ⟨k', hjk, hk'⟩ := get j y hy
    refine m.dis k k' x y hk hk' (fun e => hne ?_)
    subst e
    obtain ⟨hi, hi'⟩ := List.getElem?_eq_some_iff.1 hik
    obtain ⟨hj, hj'⟩ := List.getElem?_eq_some_iff.1 hjk
    have hp := List.pairwise_iff_getElem.1 hn
    rcases Nat.lt_trichotomy i j with hlt | heq | hgt
    · exact absurd (hi'.trans hj'.symm) (hp i j hi hj hlt)
    · exact heq
    · exact absurd (hj'.trans hi'.symm) (hp j i hj hi hgt)

def picks (L : List It) : List Nat → List It
  | [] => []
  | k :: ks => match nth L k with | some x => x :: picks L ks | none => picks L ks
theorem Mem.pk (m : Mem w0 F0 w L) (ks : List Nat) (hn : ks.Nodup) : Mem w0 F0 w (picks L ks) := by
  have key : ∀ ks : List Nat, ∃ js : List Nat, js.Sublist ks ∧ (picks L ks).map some = js.map (nth L) := by
    intro ks
    induction ks with
    | nil => exact ⟨[], List.Sublist.refl _, rfl⟩
    | cons k ks ih =>
      obtain ⟨js, h1, h2⟩ := ih
      unfold picks
      cases hk : nth L k with
      | none => exact ⟨js, h1.cons _, h2⟩
      | some x => exact ⟨k :: js, h1.cons_cons _, by simp only [List.map_cons, h2, hk]⟩
  obtain ⟨js, h1, h2⟩ := key ks
  exact m.sub js _ (List.Sublist.nodup h1 hn) h2

/-- What a block item says. -/
theorem Mem.b (m : Mem w0 F0 w L) (k : Nat) {b : Nat} {cs : List Value} {T : TypeId} (hk : nth L k = some (bk b cs T)) : w.heap[b]? = some (.cells cs.toArray T (0, 0)) := m.ok k _ hk
theorem Mem.o (m : Mem w0 F0 w L) (k : Nat) {T : TypeId} {sz : Nat} {a : Option Addr} {n c : Nat} {cs : List Value} (hk : nth L k = some (own T sz a n c cs)) : w.ownsRow 0 T sz (.slice a n c) n cs := m.ok k _ hk
end

/-! ### Cells that lie in a row somewhere -/
def Cells (w : World) (a : Option Addr) (cs : List Value) : Prop := ∀ j v, nth cs j = some v → ∃ ad, a = some ad ∧ w.cell? (ad.add j) = some v
theorem Addr.block_add (a : Addr) (n : Nat) : (a.add n).block = a.block := by unfold Addr.add; split <;> rfl
theorem Addr.add_add (a : Addr) (n m : Nat) : (a.add n).add m = a.add (n + m) := by
  unfold Addr.add
  by_cases hn : n = 0 <;> by_cases hm : m = 0 <;> simp_all [Nat.add_assoc]
theorem Cells.nil (w : World) (a : Option Addr) : Cells w a [] := fun _ _ h => by cases h
theorem Cells.keep {w w' : World} {F : Nat → Prop} {a : Option Addr} {cs : List Value} (h : Cells w a cs) (hc : Chg F w w') (hn : ∀ ad, a = some ad → ¬ F ad.block) : Cells w' a cs := fun j v hj => by
  obtain ⟨ad, rfl, hv⟩ := h j v hj
  exact ⟨ad, rfl, hc.cell hv (by rw [Addr.block_add]; exact hn ad rfl)⟩
theorem Cells.fr {w w' : World} {a : Option Addr} {cs : List Value} (h : Cells w a cs) (hc : Chg No w w') : Cells w' a cs := h.keep hc (fun _ _ h => h)
theorem Mem.ro {w0 w : World} {L : List It} (m : Mem w0 No w L) {a : Option Addr} {cs : List Value} (h : Cells w0 a cs) : Cells w a cs := h.fr m.chg
theorem Cells.drop {w : World} {a : Option Addr} {cs : List Value} (h : Cells w a cs) (k : Nat) : Cells w (a.map (·.add k)) (cs.drop k) := fun j v hj => by
  rw [nth_eq, List.getElem?_drop, ← nth_eq] at hj
  obtain ⟨ad, rfl, hv⟩ := h _ v hj
  exact ⟨ad.add k, rfl, by rw [Addr.add_add]; exact hv⟩
theorem Cells.take {w : World} {a : Option Addr} {cs : List Value} (h : Cells w a cs) (k : Nat) : Cells w a (cs.take k) := fun j v hj => by
  rw [nth_eq, List.getElem?_take] at hj
  split at hj
  · exact h j v (by rw [nth_eq]; exact hj)
  · cases hj
theorem Cells.append_left {w : World} {a : Option Addr} {cs ds : List Value} (h : Cells w a (cs ++ ds)) : Cells w a cs := by
  have := h.take cs.length
  rwa [List.take_left] at this
theorem own_cells {w : World} {T : TypeId} {sz : Nat} {a : Option Addr} {n c : Nat} {cs : List Value} (h : w.ownsRow 0 T sz (.slice a n c) n cs) : Cells w a cs := fun j v hj => by
  rw [nth_eq] at hj
  rcases h.2 with ⟨hv, hn⟩ | ⟨g, cap, cur, hv, _⟩
  · have h1 := h.1
    rw [hn, Nat.zero_mul] at h1
    have := List.eq_nil_of_length_eq_zero h1
    subst this
    cases hj
  · injection hv with h1 _ _
    subst h1
    exact ⟨_, rfl, h.cells (g := g) rfl j v hj⟩
theorem Mem.c {w0 w : World} {F0 : Nat → Prop} {L : List It} (m : Mem w0 F0 w L) (k : Nat) {T : TypeId} {sz : Nat} {a : Option Addr} {n c : Nat} {cs : List Value} (hk : nth L k = some (own T sz a n c cs)) : Cells w a cs := own_cells (m.o k hk)
theorem own_len {w : World} {T : TypeId} {sz : Nat} {a : Option Addr} {n c : Nat} {cs : List Value} (h : w.ownsRow 0 T sz (.slice a n c) n cs) : cs.length = n * sz := h.1
theorem own_le {w : World} {T : TypeId} {sz : Nat} {a : Option Addr} {n c : Nat} {cs : List Value} (h : w.ownsRow 0 T sz (.slice a n c) n cs) : n ≤ c := by
  rcases h.2 with ⟨hv, hn⟩ | ⟨g, cap, cur, hv, _, _, hle, _⟩
  · omega
  · injection hv with _ _ h3; omega
theorem own_cap {w : World} {T : TypeId} {sz : Nat} {a : Option Addr} {n c : Nat} {cs : List Value} (h : w.ownsRow 0 T sz (.slice a n c) n cs) : c ≤ maxLen := by
  rcases h.2 with ⟨hv, hn⟩ | ⟨g, cap, cur, hv, _, _, hle, hc, _⟩
  · injection hv with _ _ h3; subst h3; unfold maxLen; omega
  · injection hv with _ _ h3; omega

/-- A result in new memory. -/
def New (w w' : World) (J : It) : Prop := J.holds w' ∧ ∀ b, J.foot b → w.heap.size ≤ b
theorem Mem.new {w0 w w' : World} {F0 : Nat → Prop} {L : List It} (m : Mem w0 F0 w L) {J : It} (h : Chg No w w') (n : New w w' J) : Mem w0 F0 w' (L ++ [J]) := m.add h n.1 n.2
/-- Of a call that began with nothing of its own: what item k is, is new. -/
theorem Mem.isNew {w0 w : World} {L : List It} (m : Mem w0 No w L) (k : Nat) {J : It} (hk : nth L k = some J) : New w0 w J :=
  ⟨m.ok k J hk, fun b hb => (m.mine k J hk b hb).resolve_left (fun h => h)⟩

end K
end Go.Proofs.Ytbcpabfemejlgaa
/- The walk's own small logic, third part: what each operation does, an equation each. -/
namespace Go.Proofs.Ytbcpabfemejlgaa
namespace K

/-! ### Facts on a program's tables, found by instance -/
class TInt (P : Program) (t : Nat) (k : outParam IntKind) : Prop where
  h : P.underlying t = some (.int k)
class TStr (P : Program) (t : Nat) : Prop where
  h : P.underlying t = some .string
class TSl (P : Program) (t : Nat) (e : outParam Nat) : Prop where
  h : P.underlying t = some (.slice e)
class TArr (P : Program) (t : Nat) (n e : outParam Nat) : Prop where
  h : P.underlying t = some (.array n e)
/-- A type of one cell. -/
class Sc (P : Program) (t : Nat) : Prop where
  h : ∃ d, P.underlying t = some d ∧ (match d with | .struct _ | .array _ _ => false | _ => true) = true
  s : (P.info? t).map (·.size) = some 1
/-- A struct or an array, of n cells. -/
class Ag (P : Program) (t : Nat) (n : outParam Nat) : Prop where
  h : ∃ d, P.underlying t = some d ∧ (match d with | .struct _ | .array _ _ => true | _ => false) = true
  s : (P.info? t).map (·.size) = some n
/-- An element's type: its cells, its bytes, its zero. -/
class El (P : Program) (t : Nat) (sz bytes : outParam Nat) (z : outParam (List Value)) : Prop where
  h : ∃ i zv, P.info? t = some i ∧ i.size = sz ∧ i.bytes = bytes ∧ i.zero = some zv ∧ zv.cells = z.toArray ∧ z.length = sz ∧ 0 < sz
/-- Field f of struct type t lies at o. -/
class Fd (P : Program) (t f : Nat) (o ft : outParam Nat) : Prop where
  h : ∃ fs fd i, P.underlying t = some (.struct fs) ∧ fs[f]? = some fd ∧ fd.offset = o ∧ fd.type = ft ∧ P.info? fd.type = some i ∧ i.size ≠ 0
/-- A function that can be entered. -/
class Fnc (P : Program) (f : Nat) (fn : outParam Func) : Prop where
  h : P.funcs[f]? = some fn
  n : (fn.name == "runtime.NumGoroutine") = false
  b : fn.body.isNone = false

def str (l : List UInt8) : Value := .string ⟨l.toArray⟩
def u8 (b : UInt8) : Value := .int .u8 b.toNat
def u8s (l : List UInt8) : List Value := l.map u8
theorem u8s_length (l : List UInt8) : (u8s l).length = l.length := List.length_map ..
theorem u8s_append (l m : List UInt8) : u8s (l ++ m) = u8s l ++ u8s m := List.map_append ..

section
variable {P : Program} {e : Env} {w : World} {d : Option Nat} {ty : Nat} {pos : String} {af : Array Edge} {g : Option (Nat × Bool)}

theorem r_mv {x : Operand} {v : Value} (hx : ev e x = v) : (execOp (ev e) ⟨d, .move x, ty, pos, af, g⟩).run P w = .ok (.value v) w := by subst hx; rfl
theorem r_as {x : Operand} {v : Value} (hx : ev e x = v) : (execOp (ev e) ⟨d, .assign x, ty, pos, af, g⟩).run P w = .ok (.value v) w := by subst hx; rfl
theorem r_mvi {x : Operand} {k : IntKind} {a : Int} (hx : ev e x = .int k a) : (execOp (ev e) ⟨d, .move x, ty, pos, af, g⟩).run P w = .ok (.value (.int k a)) w := r_mv hx
theorem r_asi {x : Operand} {k : IntKind} {a : Int} (hx : ev e x = .int k a) : (execOp (ev e) ⟨d, .assign x, ty, pos, af, g⟩).run P w = .ok (.value (.int k a)) w := r_as hx
theorem r_mvb {x : Operand} {b : Bool} (hx : ev e x = .bool b) : (execOp (ev e) ⟨d, .move x, ty, pos, af, g⟩).run P w = .ok (.value (.bool b)) w := r_mv hx
theorem r_asb {x : Operand} {b : Bool} (hx : ev e x = .bool b) : (execOp (ev e) ⟨d, .assign x, ty, pos, af, g⟩).run P w = .ok (.value (.bool b)) w := r_as hx
theorem r_mvs {x : Operand} {a : Option Addr} {n c : Nat} (hx : ev e x = .slice a n c) : (execOp (ev e) ⟨d, .move x, ty, pos, af, g⟩).run P w = .ok (.value (.slice a n c)) w := r_mv hx
theorem r_ass {x : Operand} {a : Option Addr} {n c : Nat} (hx : ev e x = .slice a n c) : (execOp (ev e) ⟨d, .assign x, ty, pos, af, g⟩).run P w = .ok (.value (.slice a n c)) w := r_as hx
theorem r_mvp {x : Operand} {a : Option Addr} (hx : ev e x = .pointer a) : (execOp (ev e) ⟨d, .move x, ty, pos, af, g⟩).run P w = .ok (.value (.pointer a)) w := r_mv hx
theorem r_asp {x : Operand} {a : Option Addr} (hx : ev e x = .pointer a) : (execOp (ev e) ⟨d, .assign x, ty, pos, af, g⟩).run P w = .ok (.value (.pointer a)) w := r_as hx
theorem r_mvt {x : Operand} {l : List UInt8} (hx : ev e x = str l) : (execOp (ev e) ⟨d, .move x, ty, pos, af, g⟩).run P w = .ok (.value (str l)) w := r_mv hx
theorem r_ast {x : Operand} {l : List UInt8} (hx : ev e x = str l) : (execOp (ev e) ⟨d, .assign x, ty, pos, af, g⟩).run P w = .ok (.value (str l)) w := r_as hx
theorem r_mvf {x : Operand} {fn : Fn} {fs cs : Array Value} (hx : ev e x = .func fn fs cs) : (execOp (ev e) ⟨d, .move x, ty, pos, af, g⟩).run P w = .ok (.value (.func fn fs cs)) w := r_mv hx
theorem r_asf {x : Operand} {fn : Fn} {fs cs : Array Value} (hx : ev e x = .func fn fs cs) : (execOp (ev e) ⟨d, .assign x, ty, pos, af, g⟩).run P w = .ok (.value (.func fn fs cs)) w := r_as hx
theorem r_mvg {x : Operand} {cs : List Value} (hx : ev e x = .agg cs.toArray) : (execOp (ev e) ⟨d, .move x, ty, pos, af, g⟩).run P w = .ok (.value (.agg cs.toArray)) w := r_mv hx
theorem r_asg {x : Operand} {cs : List Value} (hx : ev e x = .agg cs.toArray) : (execOp (ev e) ⟨d, .assign x, ty, pos, af, g⟩).run P w = .ok (.value (.agg cs.toArray)) w := r_as hx
theorem r_mvu {x : Operand} {vs : Array Value} (hx : ev e x = .tuple vs) : (execOp (ev e) ⟨d, .move x, ty, pos, af, g⟩).run P w = .ok (.value (.tuple vs)) w := r_mv hx
theorem r_asu {x : Operand} {vs : Array Value} (hx : ev e x = .tuple vs) : (execOp (ev e) ⟨d, .assign x, ty, pos, af, g⟩).run P w = .ok (.value (.tuple vs)) w := r_as hx
theorem r_mvm {x : Operand} {r : Option Nat} (hx : ev e x = .map r) : (execOp (ev e) ⟨d, .move x, ty, pos, af, g⟩).run P w = .ok (.value (.map r)) w := r_mv hx
theorem r_asm {x : Operand} {r : Option Nat} (hx : ev e x = .map r) : (execOp (ev e) ⟨d, .assign x, ty, pos, af, g⟩).run P w = .ok (.value (.map r)) w := r_as hx
theorem r_pk {c x y : Operand} {t : Bool} {v u : Value} (hc : ev e c = .bool t) (hx : ev e x = v) (hy : ev e y = u) : (execOp (ev e) ⟨d, .pick c x y, ty, pos, af, g⟩).run P w = .ok (.value (bif t then v else u)) w := by
  subst hx; subst hy
  cases t <;> simp [execOp, hc, asBool]
def sel (c : Bool) (v : Value) : Value := bif c then v else undef
theorem sel_t {c : Bool} {v : Value} (h : c = true) : sel c v = v := by subst h; rfl
/-- a || b -/
theorem r_or {c y : Operand} {t u : Bool} (hc : ev e c = .bool t) (hy : ev e y = sel (!t) (.bool u)) : (execOp (ev e) ⟨d, .pick c (.const (.bool true)) y, ty, pos, af, g⟩).run P w = .ok (.value (.bool (t || u))) w := by
  have h1 : ev e (.const (.bool true)) = .bool true := rfl
  cases t <;> simp [execOp, hc, asBool, hy, sel, h1]
/-- a && b -/
theorem r_and {c y : Operand} {t u : Bool} (hc : ev e c = .bool t) (hy : ev e y = sel t (.bool u)) : (execOp (ev e) ⟨d, .pick c y (.const (.bool false)), ty, pos, af, g⟩).run P w = .ok (.value (.bool (t && u))) w := by
  have h1 : ev e (.const (.bool false)) = .bool false := rfl
  cases t <;> simp [execOp, hc, asBool, hy, sel, h1]

/-! integers -/
section
variable {t t' : Nat} {x y : Operand} {k : IntKind} {a b c : Int}
theorem r_add (hx : ev e x = .int k a) (hy : ev e y = .int k b) (hw : k.wrap (a + b) = c) : (execOp (ev e) ⟨d, .binOp .add t x y t', ty, pos, af, g⟩).run P w = .ok (.value (.int k c)) w := by
  subst hw; simp [execOp, hx, hy, eqGuard, binOp, Op.intArith]
theorem r_sub (hx : ev e x = .int k a) (hy : ev e y = .int k b) (hw : k.wrap (a - b) = c) : (execOp (ev e) ⟨d, .binOp .sub t x y t', ty, pos, af, g⟩).run P w = .ok (.value (.int k c)) w := by
  subst hw; simp [execOp, hx, hy, eqGuard, binOp, Op.intArith]
theorem r_mul (hx : ev e x = .int k a) (hy : ev e y = .int k b) (hw : k.wrap (a * b) = c) : (execOp (ev e) ⟨d, .binOp .mul t x y t', ty, pos, af, g⟩).run P w = .ok (.value (.int k c)) w := by
  subst hw; simp [execOp, hx, hy, eqGuard, binOp, Op.intArith]
theorem r_quo (hx : ev e x = .int k a) (hy : ev e y = .int k b) (hb : b ≠ 0) (hw : k.wrap (a.tdiv b) = c) : (execOp (ev e) ⟨d, .binOp .quo t x y t', ty, pos, af, g⟩).run P w = .ok (.value (.int k c)) w := by
  subst hw; simp [execOp, hx, hy, eqGuard, binOp, Op.intDiv, hb]
theorem r_rem (hx : ev e x = .int k a) (hy : ev e y = .int k b) (hb : b ≠ 0) (hw : a.tmod b = c) : (execOp (ev e) ⟨d, .binOp .rem t x y t', ty, pos, af, g⟩).run P w = .ok (.value (.int k c)) w := by
  subst hw; simp [execOp, hx, hy, eqGuard, binOp, Op.intDiv, hb]
theorem r_eq (hx : ev e x = .int k a) (hy : ev e y = .int k b) : (execOp (ev e) ⟨d, .binOp .eql t x y t', ty, pos, af, g⟩).run P w = .ok (.value (.bool (decide (a = b)))) w := by
  simp [execOp, hx, hy, eqGuard, binOp, Op.intCmp]
  by_cases h : a = b <;> simp [h]
theorem r_ne (hx : ev e x = .int k a) (hy : ev e y = .int k b) : (execOp (ev e) ⟨d, .binOp .neq t x y t', ty, pos, af, g⟩).run P w = .ok (.value (.bool (decide (a ≠ b)))) w := by
  simp [execOp, hx, hy, eqGuard, binOp, Op.intCmp, bne]
  by_cases h : a = b <;> simp [h]
theorem r_lt (hx : ev e x = .int k a) (hy : ev e y = .int k b) : (execOp (ev e) ⟨d, .binOp .lss t x y t', ty, pos, af, g⟩).run P w = .ok (.value (.bool (decide (a < b)))) w := by
  simp [execOp, hx, hy, eqGuard, binOp, Op.intCmp]
theorem r_le (hx : ev e x = .int k a) (hy : ev e y = .int k b) : (execOp (ev e) ⟨d, .binOp .leq t x y t', ty, pos, af, g⟩).run P w = .ok (.value (.bool (decide (a ≤ b)))) w := by
  simp [execOp, hx, hy, eqGuard, binOp, Op.intCmp]
theorem r_gt (hx : ev e x = .int k a) (hy : ev e y = .int k b) : (execOp (ev e) ⟨d, .binOp .gtr t x y t', ty, pos, af, g⟩).run P w = .ok (.value (.bool (decide (b < a)))) w := by
  simp [execOp, hx, hy, eqGuard, binOp, Op.intCmp]
theorem r_ge (hx : ev e x = .int k a) (hy : ev e y = .int k b) : (execOp (ev e) ⟨d, .binOp .geq t x y t', ty, pos, af, g⟩).run P w = .ok (.value (.bool (decide (b ≤ a)))) w := by
  simp [execOp, hx, hy, eqGuard, binOp, Op.intCmp]
def bitv (op : BinOp) (k : IntKind) (a b : Int) : Int :=
  match op with
  | .and => k.wrap (BitVec.ofInt k.bits a &&& BitVec.ofInt k.bits b).toNat
  | .or => k.wrap (BitVec.ofInt k.bits a ||| BitVec.ofInt k.bits b).toNat
  | .xor => k.wrap (BitVec.ofInt k.bits a ^^^ BitVec.ofInt k.bits b).toNat
  | _ => k.wrap (BitVec.ofInt k.bits a &&& ~~~ BitVec.ofInt k.bits b).toNat
theorem r_band (hx : ev e x = .int k a) (hy : ev e y = .int k b) (hw : bitv .and k a b = c) : (execOp (ev e) ⟨d, .binOp .and t x y t', ty, pos, af, g⟩).run P w = .ok (.value (.int k c)) w := by
  subst hw; simp [execOp, hx, hy, eqGuard, binOp, Op.intBits, bitv]
theorem r_bor (hx : ev e x = .int k a) (hy : ev e y = .int k b) (hw : bitv .or k a b = c) : (execOp (ev e) ⟨d, .binOp .or t x y t', ty, pos, af, g⟩).run P w = .ok (.value (.int k c)) w := by
  subst hw; simp [execOp, hx, hy, eqGuard, binOp, Op.intBits, bitv]
theorem r_bxor (hx : ev e x = .int k a) (hy : ev e y = .int k b) (hw : bitv .xor k a b = c) : (execOp (ev e) ⟨d, .binOp .xor t x y t', ty, pos, af, g⟩).run P w = .ok (.value (.int k c)) w := by
  subst hw; simp [execOp, hx, hy, eqGuard, binOp, Op.intBits, bitv]
theorem r_bnot (hx : ev e x = .int k a) (hy : ev e y = .int k b) (hw : bitv .andNot k a b = c) : (execOp (ev e) ⟨d, .binOp .andNot t x y t', ty, pos, af, g⟩).run P w = .ok (.value (.int k c)) w := by
  subst hw; simp [execOp, hx, hy, eqGuard, binOp, Op.intBits, bitv]
theorem r_shl {k' : IntKind} (hx : ev e x = .int k a) (hy : ev e y = .int k' b) (hb : 0 ≤ b) (hw : k.wrap (a * 2 ^ (min b.toNat k.bits)) = c) : (execOp (ev e) ⟨d, .binOp .shl t x y t', ty, pos, af, g⟩).run P w = .ok (.value (.int k c)) w := by
  subst hw
  have : ¬ b < 0 := by omega
  simp [execOp, hx, hy, eqGuard, binOp, Op.shift, this]
theorem r_shr {k' : IntKind} (hx : ev e x = .int k a) (hy : ev e y = .int k' b) (hb : 0 ≤ b) (hw : a.fdiv (2 ^ (min b.toNat k.bits)) = c) : (execOp (ev e) ⟨d, .binOp .shr t x y t', ty, pos, af, g⟩).run P w = .ok (.value (.int k c)) w := by
  subst hw
  have : ¬ b < 0 := by omega
  simp [execOp, hx, hy, eqGuard, binOp, Op.shift, this]
theorem r_not {b : Bool} (hx : ev e x = .bool b) : (execOp (ev e) ⟨d, .unOp .not t x, ty, pos, af, g⟩).run P w = .ok (.value (.bool (!b))) w := by
  simp [execOp, hx, Op.unary]
theorem r_neg (hx : ev e x = .int k a) (hw : k.wrap (-a) = c) : (execOp (ev e) ⟨d, .unOp .neg t x, ty, pos, af, g⟩).run P w = .ok (.value (.int k c)) w := by
  subst hw; simp [execOp, hx, Op.unary, Op.intArith]
theorem r_cv {k' : IntKind} [h : TInt P t' k'] [h' : TInt P t k] (hx : ev e x = .int k a) (hw : k'.wrap a = c) : (execOp (ev e) ⟨d, .convert t t' x, ty, pos, af, g⟩).run P w = .ok (.value (.int k' c)) w := by
  subst hw; simp [execOp, hx, convert, run_underlying h.h, run_underlying h'.h, Conv.intToInt]
theorem r_beq {b b' : Bool} (hp : P.underlying t = some .bool) (hx : ev e x = .bool b) (hy : ev e y = .bool b') : (execOp (ev e) ⟨d, .binOp .eql t x y t', ty, pos, af, g⟩).run P w = .ok (.value (.bool (b == b'))) w := by
  have h1 := run_equalIn_bool' (P := P) w 9999 t b b' hp
  simp only [execOp, hx, hy, eqGuard, binOp, Op.equal, Op.maxDepth]
  simp [h1]
theorem r_seq {l m : List UInt8} (hx : ev e x = str l) (hy : ev e y = str m) : (execOp (ev e) ⟨d, .binOp .eql t x y t', ty, pos, af, g⟩).run P w = .ok (.value (.bool (decide (l = m)))) w := by
  simp [execOp, hx, hy, eqGuard, str]
  by_cases h : l = m <;> simp [h, binOp, Op.stringOp]
theorem r_sne {l m : List UInt8} (hx : ev e x = str l) (hy : ev e y = str m) : (execOp (ev e) ⟨d, .binOp .neq t x y t', ty, pos, af, g⟩).run P w = .ok (.value (.bool (decide (l ≠ m)))) w := by
  simp [execOp, hx, hy, eqGuard, str]
  by_cases h : l = m <;> simp [h, binOp, Op.stringOp]
end

/-! calls' operands, tuples -/
theorem r_ext {x : Operand} {i : Nat} {vs : Array Value} {v : Value} (hx : ev e x = .tuple vs) (hv : vs[i]? = some v) : (execOp (ev e) ⟨d, .extract x i, ty, pos, af, g⟩).run P w = .ok (.value v) w := by
  simp [execOp, hx, Instr.extract, hv]
theorem r_exti {x : Operand} {i : Nat} {vs : Array Value} {k : IntKind} {a : Int} (hx : ev e x = .tuple vs) (hv : vs[i]? = some (.int k a)) : (execOp (ev e) ⟨d, .extract x i, ty, pos, af, g⟩).run P w = .ok (.value (.int k a)) w := r_ext hx hv
theorem r_extb {x : Operand} {i : Nat} {vs : Array Value} {b : Bool} (hx : ev e x = .tuple vs) (hv : vs[i]? = some (.bool b)) : (execOp (ev e) ⟨d, .extract x i, ty, pos, af, g⟩).run P w = .ok (.value (.bool b)) w := r_ext hx hv
theorem r_exts {x : Operand} {i : Nat} {vs : Array Value} {a : Option Addr} {n c : Nat} (hx : ev e x = .tuple vs) (hv : vs[i]? = some (.slice a n c)) : (execOp (ev e) ⟨d, .extract x i, ty, pos, af, g⟩).run P w = .ok (.value (.slice a n c)) w := r_ext hx hv
theorem r_extp {x : Operand} {i : Nat} {vs : Array Value} {a : Option Addr} (hx : ev e x = .tuple vs) (hv : vs[i]? = some (.pointer a)) : (execOp (ev e) ⟨d, .extract x i, ty, pos, af, g⟩).run P w = .ok (.value (.pointer a)) w := r_ext hx hv
theorem r_extt {x : Operand} {i : Nat} {vs : Array Value} {l : List UInt8} (hx : ev e x = .tuple vs) (hv : vs[i]? = some (str l)) : (execOp (ev e) ⟨d, .extract x i, ty, pos, af, g⟩).run P w = .ok (.value (str l)) w := r_ext hx hv
theorem r_extg {x : Operand} {i : Nat} {vs : Array Value} {cs : List Value} (hx : ev e x = .tuple vs) (hv : vs[i]? = some (.agg cs.toArray)) : (execOp (ev e) ⟨d, .extract x i, ty, pos, af, g⟩).run P w = .ok (.value (.agg cs.toArray)) w := r_ext hx hv
theorem r_nil {x : Operand} {a : Addr} (hx : ev e x = .pointer (some a)) : (execOp (ev e) ⟨d, .nilCheck x, ty, pos, af, g⟩).run P w = .ok (.value (.pointer (some a))) w := by
  simp [execOp, hx]
theorem r_fn0 {fn : Fn} : (execOp (ev e) ⟨d, .makeFunc fn #[] #[], ty, pos, af, g⟩).run P w = .ok (.value (.func fn #[] #[])) w := by simp [execOp, Instr.makeFunc]
theorem r_fn1 {fn : Fn} {x : Operand} {v : Value} (hx : ev e x = v) : (execOp (ev e) ⟨d, .makeFunc fn #[] #[x], ty, pos, af, g⟩).run P w = .ok (.value (.func fn #[] #[v])) w := by
  subst hx; simp [execOp, Instr.makeFunc]
theorem r_fn2 {fn : Fn} {x y : Operand} {v u : Value} (hx : ev e x = v) (hy : ev e y = u) : (execOp (ev e) ⟨d, .makeFunc fn #[] #[x, y], ty, pos, af, g⟩).run P w = .ok (.value (.func fn #[] #[v, u])) w := by
  subst hx; subst hy; simp [execOp, Instr.makeFunc]
theorem r_fn3 {fn : Fn} {x y z : Operand} {v u t : Value} (hx : ev e x = v) (hy : ev e y = u) (hz : ev e z = t) : (execOp (ev e) ⟨d, .makeFunc fn #[] #[x, y, z], ty, pos, af, g⟩).run P w = .ok (.value (.func fn #[] #[v, u, t])) w := by
  subst hx; subst hy; subst hz; simp [execOp, Instr.makeFunc]

/-! builtins on what is there -/
theorem x_builtin {b : Builtin} {xs : Array Operand} {ats : Array Nat} : execOp (ev e) ⟨d, .call ⟨.builtin b, xs, ats⟩, ty, pos, af, g⟩ = builtin b ats ty (xs.map fun | .const _ => true | _ => false) (xs.map (ev e)) := rfl
theorem r_len {x : Operand} {t el : Nat} {a : Option Addr} {n c : Nat} [h : TSl P t el] (hx : ev e x = .slice a n c) : (execOp (ev e) ⟨d, .call ⟨.builtin .len, #[x], #[t]⟩, ty, pos, af, g⟩).run P w = .ok (.value (.int .i64 n)) w := by
  have e1 : (#[x] : Array Operand).map (ev e) = #[.slice a n c] := by simp [hx]
  rw [x_builtin, e1]
  unfold builtin
  simp [Builtin.len_, run_underlying h.h, goInt]
theorem r_slen {x : Operand} {t : Nat} {l : List UInt8} [h : TStr P t] (hx : ev e x = str l) : (execOp (ev e) ⟨d, .call ⟨.builtin .len, #[x], #[t]⟩, ty, pos, af, g⟩).run P w = .ok (.value (.int .i64 l.length)) w := by
  have e1 : (#[x] : Array Operand).map (ev e) = #[str l] := by simp [hx]
  rw [x_builtin, e1]
  have h1 := run_len_string (P := P) w t ty ⟨l.toArray⟩ h.h
  unfold builtin str
  simp only [Sem.run_bind, h1, Result.andThen_ok, Sem.run_pure]
  rfl
end

end K
end Go.Proofs.Ytbcpabfemejlgaa
