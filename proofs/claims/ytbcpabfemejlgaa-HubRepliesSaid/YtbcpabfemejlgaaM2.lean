/- The walk's own small logic, fifth part: one operation after another; guards; regions whose order is open; a function's begin and end. -/
import Derived.Test.YtbcpabfemejlgaaM1
import Derived.Laws.BytesString
import Derived.Lib.AppendZeros
import Derived.Lib.SliceRun
import Derived.DeepKeys
namespace Go.Proofs.Ytbcpabfemejlgaa
namespace K

section
variable {P : Program} {l0 : List Oper} {Q : Env → World → Prop} {rest : List Oper} {e : Env} {w : World} {dd : Nat} {op : Op} {ty : Nat} {pos : String} {af : Array Edge} {v : Value}

theorem wn (h : Q e w) : wlE P l0 Q [] e w := h
theorem s1 (hr : (execOp (ev e) ⟨some dd, op, ty, pos, af, none⟩).run P w = .ok (.value v) w) (k : wlE P l0 Q rest (upd e dd v) w) : wlE P l0 Q (⟨some dd, op, ty, pos, af, none⟩ :: rest) e w := o_v hr k
theorem so (h : OwpE P ⟨some dd, op, ty, pos, af, none⟩ e w (fun v w' => wlE P l0 Q rest (upd e dd v) w')) : wlE P l0 Q (⟨some dd, op, ty, pos, af, none⟩ :: rest) e w := h
theorem ss (h : OwpE P ⟨none, op, ty, pos, af, none⟩ e w (fun _ w' => wlE P l0 Q rest e w')) : wlE P l0 Q (⟨none, op, ty, pos, af, none⟩ :: rest) e w := h

variable {j t : Nat} {b c : Bool}
theorem wanted_of {o : Oper} {u : Bool} (ho : o.guard = some (j, u)) (ht : gd l0 j = some t) (hb : e t = .bool b) : wantedE l0 o e = (b == u) := by
  unfold wantedE Region.wanted gslot
  rw [ho]
  simp only [ht, hb]
  cases b <;> cases u <;> rfl
theorem wanted_of_sel {o : Oper} {u : Bool} (ho : o.guard = some (j, u)) (ht : gd l0 j = some t) (hb : e t = sel c (.bool b)) : wantedE l0 o e = (c && (b == u)) := by
  unfold wantedE Region.wanted gslot
  rw [ho]
  simp only [ht, hb]
  cases c <;> cases b <;> cases u <;> rfl
theorem n_g {u q : Bool} (hw : wantedE l0 ⟨some dd, op, ty, pos, af, some (j, u)⟩ e = q) (hr : q = true → (execOp (ev e) ⟨some dd, op, ty, pos, af, some (j, u)⟩).run P w = .ok (.value v) w) (k : wlE P l0 Q rest (upd e dd (sel q v)) w) : wlE P l0 Q (⟨some dd, op, ty, pos, af, some (j, u)⟩ :: rest) e w := by
  unfold wlE
  rw [hw]
  cases q with
  | true => exact o_v (hr rfl) k
  | false => exact k
theorem sT (ht : gd l0 j = some t) (hb : e t = .bool b) (hr : b = true → (execOp (ev e) ⟨some dd, op, ty, pos, af, some (j, true)⟩).run P w = .ok (.value v) w) (k : wlE P l0 Q rest (upd e dd (sel b v)) w) : wlE P l0 Q (⟨some dd, op, ty, pos, af, some (j, true)⟩ :: rest) e w :=
  n_g (by rw [wanted_of rfl ht hb]; cases b <;> rfl) hr k
theorem sF (ht : gd l0 j = some t) (hb : e t = .bool b) (hr : (!b) = true → (execOp (ev e) ⟨some dd, op, ty, pos, af, some (j, false)⟩).run P w = .ok (.value v) w) (k : wlE P l0 Q rest (upd e dd (sel (!b) v)) w) : wlE P l0 Q (⟨some dd, op, ty, pos, af, some (j, false)⟩ :: rest) e w :=
  n_g (by rw [wanted_of rfl ht hb]; cases b <;> rfl) hr k
theorem sTs (ht : gd l0 j = some t) (hb : e t = sel c (.bool b)) (hr : (c && b) = true → (execOp (ev e) ⟨some dd, op, ty, pos, af, some (j, true)⟩).run P w = .ok (.value v) w) (k : wlE P l0 Q rest (upd e dd (sel (c && b) v)) w) : wlE P l0 Q (⟨some dd, op, ty, pos, af, some (j, true)⟩ :: rest) e w :=
  n_g (by rw [wanted_of_sel rfl ht hb]; cases b <;> rfl) hr k
theorem sFs (ht : gd l0 j = some t) (hb : e t = sel c (.bool b)) (hr : (c && !b) = true → (execOp (ev e) ⟨some dd, op, ty, pos, af, some (j, false)⟩).run P w = .ok (.value v) w) (k : wlE P l0 Q rest (upd e dd (sel (c && !b) v)) w) : wlE P l0 Q (⟨some dd, op, ty, pos, af, some (j, false)⟩ :: rest) e w :=
  n_g (by rw [wanted_of_sel rfl ht hb]; cases b <;> rfl) hr k
/-- A guarded operation that may turn the world: its value is known, and what is kept. -/
theorem n_gw {u q : Bool} {I : World → Prop} (hw : wantedE l0 ⟨some dd, op, ty, pos, af, some (j, u)⟩ e = q) (h0 : I w) (hr : q = true → OwpE P ⟨some dd, op, ty, pos, af, some (j, u)⟩ e w (fun x w' => x = v ∧ I w')) (k : ∀ w', I w' → wlE P l0 Q rest (upd e dd (sel q v)) w') : wlE P l0 Q (⟨some dd, op, ty, pos, af, some (j, u)⟩ :: rest) e w := by
  unfold wlE
  rw [hw]
  cases q with
  | true => exact OwpE.mono (hr rfl) fun x w' ⟨hx, hi⟩ => by subst hx; exact k w' hi
  | false => exact k w h0
theorem sTw {I : World → Prop} (ht : gd l0 j = some t) (hb : e t = .bool b) (h0 : I w) (hr : b = true → OwpE P ⟨some dd, op, ty, pos, af, some (j, true)⟩ e w (fun x w' => x = v ∧ I w')) (k : ∀ w', I w' → wlE P l0 Q rest (upd e dd (sel b v)) w') : wlE P l0 Q (⟨some dd, op, ty, pos, af, some (j, true)⟩ :: rest) e w :=
  n_gw (by rw [wanted_of rfl ht hb]; cases b <;> rfl) h0 hr k
theorem sFw {I : World → Prop} (ht : gd l0 j = some t) (hb : e t = .bool b) (h0 : I w) (hr : (!b) = true → OwpE P ⟨some dd, op, ty, pos, af, some (j, false)⟩ e w (fun x w' => x = v ∧ I w')) (k : ∀ w', I w' → wlE P l0 Q rest (upd e dd (sel (!b) v)) w') : wlE P l0 Q (⟨some dd, op, ty, pos, af, some (j, false)⟩ :: rest) e w :=
  n_gw (by rw [wanted_of rfl ht hb]; cases b <;> rfl) h0 hr k
theorem sel_and {x y : Bool} {v : Value} (h : x = true) : sel (x && y) v = sel y v := by subst h; rfl

/-! ### Regions whose order is open.
A region's operations may come in any order that their edges allow. Those that only read ('true' in the order) may be walked first: each yields its value in every world that meets S. Behind an operation that T marks S is shown anew; one that T does not mark waits for all that read and have not come. -/
def opE (P : Program) (l0 : List Oper) (i : Nat) (K : Env → World → Prop) (e : Env) (w : World) : Prop :=
  match nth l0 i with
  | none => K e w
  | some o => bif wantedE l0 o e then OwpE P o e w (fun v w' => K (up e o.dst v) w') else K (up e o.dst undef) w
theorem opE_mono {i : Nat} {K K' : Env → World → Prop} (h : opE P l0 i K e w) (hk : ∀ e w, K e w → K' e w) : opE P l0 i K' e w := by
  unfold opE at *
  generalize nth l0 i = q at *
  cases q with
  | none => exact hk _ _ h
  | some o =>
    simp only at h ⊢
    cases hw : wantedE l0 o e with
    | true => rw [hw] at h; exact OwpE.mono h fun v w' hv => hk _ _ hv
    | false => rw [hw] at h; exact hk _ _ h
def aE (P : Program) (l0 : List Oper) (T : List Bool) (S : World → Prop) (Q : Env → World → Prop) : Nat → Array Bool → Env → World → Prop
  | 0, listed, e, w => Region.ready .any l0.toArray listed = [] ∧ Q e w
  | f + 1, listed, e, w => (Region.ready .any l0.toArray listed = [] → Q e w) ∧
    ∀ i ∈ Region.ready .any l0.toArray listed, opE P l0 i (fun e' w' => (nth T i ≠ some false → S w') ∧ aE P l0 T S Q f (listed.setIfInBounds i true) e' w') e w
theorem aE.sound {N : Nat} {T : List Bool} {S : World → Prop} (hd : l0.all (dstOk N) = true) : ∀ (f : Nat) (listed : Array Bool) (e : Env) (w : World) (a : Act), Agr N a e → aE P l0 T S Q f listed e w →
    wpAny P .any l0.toArray (fun x a w => x = .normal ∧ ∃ e', Agr N a e' ∧ Q e' w) f listed a w
  | 0, listed, e, w, a, ha, h => ⟨h.1, rfl, e, ha, h.2⟩
  | f + 1, listed, e, w, a, ha, h => by
    refine ⟨fun h0 => ⟨rfl, e, ha, h.1 h0⟩, fun i hi => ?_⟩
    have h1 := h.2 i hi
    unfold opE at h1
    unfold wpOp
    rw [List.getElem?_toArray, ← nth_eq]
    cases ho : nth l0 i with
    | none => rw [ho] at h1; exact aE.sound hd f _ e w a ha h1.2
    | some o =>
      rw [ho] at h1
      simp only at h1 ⊢
      have hdo : dstOk N o = true := List.all_eq_true.1 hd o (List.mem_of_getElem? (by rw [← nth_eq]; exact ho))
      rw [ha.wanted]
      cases hw : wantedE l0 o e with
      | true =>
        rw [hw] at h1
        rw [if_pos rfl]
        exact .inl (OwpE.wp ha h1 fun v w' hv => aE.sound hd f _ _ w' _ (ha.put o v hdo) hv.2)
      | false =>
        rw [hw] at h1
        rw [if_neg (by simp)]
        exact aE.sound hd f _ _ w _ (ha.put o undef hdo) h1.2

def PureE (P : Program) (l0 : List Oper) (S : World → Prop) (o : Oper) (e : Env) (v : Value) : Prop :=
  (wantedE l0 o e = true ∧ ∀ w, S w → (execOp (ev e) o).run P w = .ok (.value v) w) ∨ (wantedE l0 o e = false ∧ v = undef)

theorem ev_up {e : Env} {dst : Option Nat} {v : Value} {x : Operand} (h : ∀ d, dst = some d → x ≠ .tmp d) : ev (up e dst v) x = ev e x := by
  cases dst with
  | none => rfl
  | some d =>
    cases x with
    | tmp t =>
      have hne : t ≠ d := fun he => h d rfl (he ▸ rfl)
      show (bif Nat.beq t d then v else e t) = e t
      rw [show Nat.beq t d = false from by
        rcases hb : Nat.beq t d with _ | _
        · rfl
        · exact absurd (Nat.eq_of_beq_eq_true hb) hne]
      rfl
    | _ => rfl
theorem exec_up {o : Oper} (hs : ∀ cs b, o.op ≠ .select cs b) {e : Env} {dst : Option Nat} {v : Value} (h : ∀ d, dst = some d → d ∉ o.looksAt l0.toArray) : execOp (ev (up e dst v)) o = execOp (ev e) o :=
  execOp_congr o hs fun x hx => ev_up fun d hd hxd => h d hd (by
    subst hxd
    exact List.mem_append_left _ (List.mem_filterMap.2 ⟨.tmp d, by simpa using hx, rfl⟩))
theorem wanted_up {o : Oper} {e : Env} {dst : Option Nat} {v : Value} (h : ∀ d, dst = some d → d ∉ o.looksAt l0.toArray) : wantedE l0 o (up e dst v) = wantedE l0 o e := by
  unfold wantedE Region.wanted
  cases hg : o.guard with
  | none => rfl
  | some gw =>
    obtain ⟨gi, want⟩ := gw
    have : gslot l0 (up e dst v) gi = gslot l0 e gi := by
      unfold gslot
      cases ht : gd l0 gi with
      | none => rfl
      | some t =>
        have := ev_up (e := e) (v := v) (dst := dst) (x := .tmp t) (fun d hd hx => h d hd (by
          injection hx with hx
          subst hx
          unfold gd at ht
          unfold Oper.looksAt
          rw [hg]
          simp only [List.getElem?_toArray, ← nth_eq]
          cases hn : nth l0 gi with
          | none => rw [hn] at ht; cases ht
          | some o' => rw [hn] at ht; simp [ht]))
        simp only [ev] at this
        simp only [this]
    simp only [this]
theorem up_comm {e : Env} {x y : Option Nat} {v u : Value} (h : ∀ d, x = some d → y ≠ some d) : up (up e x v) y u = up (up e y u) x v := by
  cases x with
  | none => rfl
  | some d =>
    cases y with
    | none => rfl
    | some d' =>
      have hne : d ≠ d' := fun he => h d rfl (he ▸ rfl)
      funext i
      simp only [up, upd]
      rcases h1 : Nat.beq i d with _ | _ <;> rcases h2 : Nat.beq i d' with _ | _ <;> simp only [cond_true, cond_false]
      exact absurd ((Nat.eq_of_beq_eq_true h1).symm.trans (Nat.eq_of_beq_eq_true h2)) hne
theorem PureE.up {S : World → Prop} {o oj : Oper} {v u : Value} (hs : ∀ cs b, o.op ≠ .select cs b) (h : PureE P l0 S o e v) (hd : ∀ d, oj.dst = some d → d ∉ o.looksAt l0.toArray) : PureE P l0 S o (up e oj.dst u) v := by
  unfold PureE at *
  rw [exec_up (l0 := l0) hs hd, wanted_up hd]
  exact h
theorem opE_swap {S : World → Prop} {j : Nat} {oi oj : Oper} {v : Value} {K : Env → World → Prop} (hj : nth l0 j = some oj) (hap : oi.apart l0.toArray oj = true) (hsi : ∀ cs b, oi.op ≠ .select cs b) (hsj : ∀ cs b, oj.op ≠ .select cs b)
    (hp : PureE P l0 S oi e v) (h : opE P l0 j K (up e oi.dst v) w) : opE P l0 j (fun e' w' => PureE P l0 S oi e' v ∧ K (up e' oi.dst v) w') e w := by
  obtain ⟨h1, h2, h3⟩ := Oper.apart_spec hap
  unfold opE at *
  rw [hj] at h ⊢
  simp only at h ⊢
  rw [wanted_up h1] at h
  cases hw : wantedE l0 oj e with
  | true =>
    rw [hw] at h
    have h4 : OwpE P oj e w (fun u w' => K (up (up e oi.dst v) oj.dst u) w') := by
      have h5 := h
      simp only [cond_true] at h5
      unfold OwpE at h5 ⊢
      rw [exec_up (l0 := l0) hsj h1] at h5
      exact h5
    exact OwpE.mono h4 fun u w' hk => ⟨hp.up hsi h3, by rw [← up_comm h2]; exact hk⟩
  | false =>
    rw [hw] at h
    exact ⟨hp.up hsi h3, by rw [← up_comm h2]; exact h⟩
/-- Which operations wait for operation i, by whichever way. -/
def marks (ops : Array Oper) (i : Nat) : List Oper → List Bool → List Bool
  | [], acc => acc
  | o :: rest, acc => marks ops i rest (acc ++ [o.after.any fun e => Region.binds .any e && (e.on == i || nth acc e.on == some true)])
theorem marks_spec (ops : Array Oper) (i : Nat) : ∀ (l : List Oper) (acc : List Bool) (k : Nat), nth (marks ops i l acc) k = some true → nth acc k = some true ∨
    ∃ o, nth l (k - acc.length) = some o ∧ acc.length ≤ k ∧ ∃ x ∈ o.after, Region.binds .any x = true ∧ (x.on = i ∨ nth (marks ops i l acc) x.on = some true) := by
  intro l
  have keep : ∀ (l : List Oper) (acc : List Bool) (k : Nat), nth acc k = some true → nth (marks ops i l acc) k = some true := by
    intro l
    induction l with
    | nil => intro acc k h; exact h
    | cons o rest ih =>
      intro acc k h
      refine ih _ k ?_
      rw [nth_eq] at h ⊢
      rw [List.getElem?_append_left (List.getElem?_eq_some_iff.1 h).1]
      exact h
  induction l with
  | nil => intro acc k h; exact .inl h
  | cons o rest ih =>
    intro acc k h
    rcases ih _ k h with h1 | ⟨o', h1, h2, h3⟩
    · rcases nth_snoc acc _ _ k h1 with ⟨hk, hv⟩ | ⟨_, h2⟩
      · refine .inr ⟨o, by rw [hk, Nat.sub_self]; rfl, by omega, ?_⟩
        obtain ⟨x, hx, hb⟩ := Array.any_eq_true'.1 hv.symm
        simp only [Bool.and_eq_true, Bool.or_eq_true, beq_iff_eq] at hb
        refine ⟨x, hx, hb.1, ?_⟩
        rcases hb.2 with h3 | h3
        · exact .inl h3
        · exact .inr (keep (o :: rest) acc _ h3)
      · exact .inl h2
    · simp only [List.length_append, List.length_singleton] at h1 h2
      refine .inr ⟨o', ?_, by omega, h3⟩
      have : k - acc.length = (k - (acc.length + 1)) + 1 := by omega
      rw [this]; exact h1
def M (l0 : List Oper) (i j : Nat) : Bool := nth (marks l0.toArray i l0 []) j == some true
theorem M_spec {l0 : List Oper} {i j : Nat} {oj : Oper} (hj : nth l0 j = some oj) (h : M l0 i j = true) : ∃ x ∈ oj.after, Region.binds .any x = true ∧ (x.on = i ∨ M l0 i x.on = true) := by
  simp only [M, beq_iff_eq] at h
  rcases marks_spec l0.toArray i l0 [] j h with h1 | ⟨o, h1, _, x, hx, hb, h2⟩
  · cases h1
  · rw [List.length_nil, Nat.sub_zero, hj] at h1
    injection h1 with h1
    subst h1
    exact ⟨x, hx, hb, h2.imp id (fun h => by simp only [M, beq_iff_eq]; exact h)⟩
def tOk (l0 : List Oper) (T : List Bool) (listed : Array Bool) (i : Nat) : Bool :=
  (List.range l0.length).all fun j => (!M l0 i j || !listed.getD j true) && (j == i || listed.getD j true || nth T j != some false || M l0 i j)
theorem M_some {l0 : List Oper} {i j : Nat} (h : M l0 i j = true) : (nth l0 j).isSome = true := by
  simp only [M, beq_iff_eq] at h
  have hlt := nth_lt _ _ _ h
  have hml : ∀ (l : List Oper) (acc : List Bool), (marks l0.toArray i l acc).length = acc.length + l.length := by
    intro l
    induction l with
    | nil => intro acc; rfl
    | cons o rest ih => intro acc; rw [marks, ih]; simp; omega
  rw [hml] at hlt
  rw [nth_eq, List.getElem?_eq_getElem (by simpa using hlt)]; rfl
theorem aE_first {T : List Bool} {S : World → Prop} {i : Nat} {oi : Oper} {v : Value} (hi : nth l0 i = some oi) (m : Nat → Bool) (hms : ∀ j oj, nth l0 j = some oj → m j = true → ∃ x ∈ oj.after, Region.binds .any x = true ∧ (x.on = i ∨ m x.on = true)) (hmb : ∀ j, m j = true → (nth l0 j).isSome = true) (hsel : Region.noSelect l0.toArray = true) :
    ∀ (f : Nat) (listed : Array Bool) (e : Env) (w : World),
      (∀ j oj, nth l0 j = some oj → j ≠ i → listed.getD j true = false → (∀ x ∈ oj.after, Region.binds .any x = true → x.on ≠ i) → oi.apart l0.toArray oj = true) →
      (∀ j, m j = true → (nth l0 j).isSome = true → listed.getD j true = false) →
      (∀ j, (nth l0 j).isSome = true → j ≠ i → listed.getD j true = false → nth T j = some false → m j = true) →
      i ∈ Region.ready .any l0.toArray listed → PureE P l0 S oi e v → S w → aE P l0 T S Q f (listed.setIfInBounds i true) (up e oi.dst v) w → aE P l0 T S Q (f + 1) listed e w := by
  have nosel : ∀ (j : Nat) (o : Oper) cs b, nth l0 j = some o → o.op ≠ .select cs b := fun j o cs b hj =>
    Region.noSelect_spec hsel j o cs b (by rw [List.getElem?_toArray, ← nth_eq]; exact hj)
  have one : ∀ {f : Nat} {listed : Array Bool} {e : Env} {w : World}, PureE P l0 S oi e v → S w → aE P l0 T S Q f (listed.setIfInBounds i true) (up e oi.dst v) w → opE P l0 i (fun e' w' => (nth T i ≠ some false → S w') ∧ aE P l0 T S Q f (listed.setIfInBounds i true) e' w') e w := by
    intro f listed e w hp hS H
    unfold opE
    rw [hi]
    simp only
    rcases hp with ⟨hw, hr⟩ | ⟨hw, rfl⟩
    · rw [hw]; exact o_v (hr w hS) ⟨fun _ => hS, H⟩
    · rw [hw]; exact ⟨fun _ => hS, H⟩
  intro f
  induction f with
  | zero =>
    intro listed e w _ _ _ hr hp hS H
    refine ⟨fun h => (by rw [h] at hr; cases hr), fun j hj => ?_⟩
    by_cases hji : j = i
    · subst hji; exact one hp hS H
    · have := ready_mono hj hji
      rw [H.1] at this
      cases this
  | succ f ih =>
    intro listed e w hfree hM hT hr hp hS H
    refine ⟨fun h => (by rw [h] at hr; cases hr), fun j hj => ?_⟩
    by_cases hji : j = i
    · subst hji; exact one hp hS H
    · have h1 := H.2 j (ready_mono hj hji)
      obtain ⟨hjun, oj, hoj', hall⟩ := mem_ready.1 hj
      have hoj : nth l0 j = some oj := by rw [nth_eq, ← List.getElem?_toArray]; exact hoj'
      have hiun := (mem_ready.1 hr).1
      have unl : ∀ k, listed.getD k true = false → listed.getD k false = true → False := fun k h0 h1 => by
        rcases Nat.lt_or_ge k listed.size with h' | h'
        · simp [h'] at h0 h1; rw [h0] at h1; cases h1
        · simp [Array.getElem?_eq_none h'] at h1
      have hnot : ∀ x ∈ oj.after, Region.binds .any x = true → x.on ≠ i := fun x hx hb heq => unl i hiun (heq ▸ hall x hx hb)
      have hjM : m j ≠ true := fun hm => by
        obtain ⟨x, hx, hb, h2 | h2⟩ := hms j oj hoj hm
        · exact hnot x hx hb h2
        · exact unl x.on (hM x.on h2 (hmb x.on h2)) (hall x hx hb)
      have hTj : nth T j ≠ some false := fun hf => hjM (hT j (by rw [hoj]; rfl) hji hjun hf)
      have h2 := opE_swap hoj (hfree j oj hoj hji hjun hnot) (fun cs b => nosel i oi cs b hi) (fun cs b => nosel j oj cs b hoj) hp h1
      have keepUn : ∀ k, (listed.setIfInBounds j true).getD k true = false → k ≠ j ∧ listed.getD k true = false := fun k hk => by
        by_cases hjk : j = k
        · subst hjk
          rcases Nat.lt_or_ge j listed.size with h' | h'
          · simp [h'] at hk
          · simp [Array.getElem?_eq_none h'] at hjun
        · exact ⟨Ne.symm hjk, by rw [getD_set_ne true hjk] at hk; exact hk⟩
      refine opE_mono h2 fun e' w' h3 => ⟨h3.2.1, ih (listed.setIfInBounds j true) e' w' ?_ ?_ ?_ (ready_mono hr (Ne.symm hji)) h3.1 (h3.2.1 hTj) ?_⟩
      · exact fun k ok hk hki hun hno => hfree k ok hk hki (keepUn k hun).2 hno
      · intro k hk hks
        have hkj : k ≠ j := fun e => hjM (e ▸ hk)
        rw [getD_set_ne true (Ne.symm hkj)]
        exact hM k hk hks
      · exact fun k hks hki hun hf => hT k hks hki (keepUn k hun).2 hf
      · rw [Array.setIfInBounds_comm _ _ hji]
        exact h3.2.2

def wo (P : Program) (l0 : List Oper) (T : List Bool) (S : World → Prop) (Q : Env → World → Prop) : List (Nat × Bool) → Env → World → Prop
  | [], e, w => Q e w
  | (i, true) :: r, e, w => ∃ o v, nth l0 i = some o ∧ S w ∧ PureE P l0 S o e v ∧ wo P l0 T S Q r (up e o.dst v) w
  | (i, false) :: r, e, w => ∃ o, nth l0 i = some o ∧ (bif wantedE l0 o e then OwpE P o e w (fun v w' => (nth T i ≠ some false → S w') ∧ wo P l0 T S Q r (up e o.dst v) w') else (nth T i ≠ some false → S w) ∧ wo P l0 T S Q r (up e o.dst undef) w)
def orderB (ops : Array Oper) (T : List Bool) : List (Nat × Bool) → Array Bool → Bool
  | [], listed => (Region.ready .any ops listed).isEmpty
  | (i, true) :: r, listed => Region.free .any ops listed i && (T.all id || tOk ops.toList T listed i) && (Region.ready .any ops listed).contains i && orderB ops T r (listed.setIfInBounds i true)
  | (i, false) :: r, listed => (Region.ready .any ops listed == [i]) && orderB ops T r (listed.setIfInBounds i true)

theorem wo.sound {T : List Bool} {S : World → Prop} (hsel : Region.noSelect l0.toArray = true) : ∀ (r : List (Nat × Bool)) (listed : Array Bool) (e : Env) (w : World), orderB l0.toArray T r listed = true → wo P l0 T S Q r e w → aE P l0 T S Q r.length listed e w
  | [], listed, e, w, ho, h => ⟨by simpa [orderB] using ho, h⟩
  | (i, true) :: r, listed, e, w, ho, h => by
    obtain ⟨o, v, hi, hS, hp, hr⟩ := h
    simp only [orderB, Bool.and_eq_true] at ho
    obtain ⟨⟨⟨hf, ht⟩, hrd⟩, ho'⟩ := ho
    have hi' : l0.toArray[i]? = some o := by rw [List.getElem?_toArray, ← nth_eq]; exact hi
    have hfree : ∀ j oj, nth l0 j = some oj → j ≠ i → listed.getD j true = false → (∀ x ∈ oj.after, Region.binds .any x = true → x.on ≠ i) → o.apart l0.toArray oj = true :=
      fun j oj hj hne hun hno => Region.free_spec hi' hf j oj (by rw [List.getElem?_toArray, ← nth_eq]; exact hj) hne hun hno
    rcases Bool.or_eq_true _ _ ▸ ht with ht | ht
    · refine aE_first hi (fun _ => false) (fun _ _ _ h => by cases h) (fun _ h => by cases h) hsel r.length listed e w hfree (fun _ h => by cases h) (fun j _ _ _ hTf => ?_) (by simpa using hrd) hp hS (wo.sound hsel r _ _ w ho' hr)
      rw [nth_eq] at hTf
      have := List.all_eq_true.1 ht false (List.mem_of_getElem? hTf)
      cases this
    refine aE_first hi (M l0 i) (fun _ _ hj hm => M_spec hj hm) (fun _ hm => M_some hm) hsel r.length listed e w hfree ?_ ?_ (by simpa using hrd) hp hS (wo.sound hsel r _ _ w ho' hr)
    · intro j hm hjs
      simp only [tOk, List.all_eq_true, List.mem_range] at ht
      have hlt : j < l0.length := by
        cases hn : nth l0 j with
        | none => rw [hn] at hjs; cases hjs
        | some o => exact nth_lt _ _ _ hn
      have h1 := ht j hlt
      simp only [hm, Bool.not_true, Bool.false_or, Bool.and_eq_true, Bool.not_eq_true'] at h1
      exact h1.1
    · intro j hjs hne hun hTf
      simp only [tOk, List.all_eq_true, List.mem_range] at ht
      have hlt : j < l0.length := by
        cases hn : nth l0 j with
        | none => rw [hn] at hjs; cases hjs
        | some o => exact nth_lt _ _ _ hn
      have h1 := ht j hlt
      simp only [hne, hun, hTf, Bool.and_eq_true, Bool.or_eq_true, beq_iff_eq, Bool.false_eq_true, or_self, false_or, bne_self_eq_false] at h1
      exact h1.2
  | (i, false) :: r, listed, e, w, ho, h => by
    obtain ⟨o, hi, hr⟩ := h
    simp only [orderB, Bool.and_eq_true, beq_iff_eq] at ho
    refine ⟨fun h0 => (by rw [ho.1] at h0; cases h0), fun k hk => ?_⟩
    rw [ho.1] at hk
    simp only [List.mem_singleton] at hk
    subst hk
    unfold opE
    rw [hi]
    simp only
    cases hw : wantedE l0 o e with
    | true => rw [hw] at hr; exact OwpE.mono hr fun v w' ⟨hs, hv⟩ => ⟨hs, wo.sound hsel r _ _ w' ho.2 hv⟩
    | false => rw [hw] at hr; exact ⟨hr.1, wo.sound hsel r _ _ w ho.2 hr.2⟩

theorem c_draw {N id : Nat} {l : List Oper} {Rt : Env → World → Prop} {Q : Post} (hm : P.follows .mixedOrders = true) (r : List (Nat × Bool)) (T : List Bool) (S : World → Prop) (hsel : Region.noSelect l.toArray = true) (hd : l.all (dstOk N) = true) (hlen : Nat.beq r.length l.length = true)
    (ho : orderB l.toArray T r (Array.replicate l.toArray.size false) = true) (h : ∀ w', Chg No w w' → wo P l T S (fun e w => Q .normal e w) r e w') : wpE P N Rt (.region id l.toArray true) Q e w := by
  intro a ha
  have h1 := aE.sound (N := N) hd r.length _ e _ a ha (wo.sound hsel r _ e _ ho (h _ (Chg.drawn No w (w.drawn + 1))))
  have hl : r.length = l.toArray.size := by rw [Nat.eq_of_beq_eq_true hlen]; simp
  rw [hl] at h1
  refine wp_mono (wp_region_any hm h1) fun x a' w' hx => ?_
  obtain ⟨rfl, e', ha', hq⟩ := hx
  exact ⟨e', ha', hq⟩
theorem c_sdraw {N id : Nat} {l : List Oper} {y : Code} {Rt : Env → World → Prop} {Q : Post} (hm : P.follows .mixedOrders = true) (r : List (Nat × Bool)) (T : List Bool) (S : World → Prop) (hsel : Region.noSelect l.toArray = true) (hd : l.all (dstOk N) = true) (hlen : Nat.beq r.length l.length = true)
    (ho : orderB l.toArray T r (Array.replicate l.toArray.size false) = true) (h : ∀ w', Chg No w w' → wo P l T S (fun e w => wpE P N Rt y Q e w) r e w') : wpE P N Rt (.seq (.region id l.toArray true) y) Q e w := c_seq (c_draw hm r T S hsel hd hlen ho h)

variable {T : List Bool} {S : World → Prop} {r : List (Nat × Bool)} {i : Nat} {g : Option (Nat × Bool)}
theorem pn (h : Q e w) : wo P l0 T S Q [] e w := h
theorem p1 (hi : nth l0 i = some ⟨some dd, op, ty, pos, af, none⟩) (hr : ∀ w, S w → (execOp (ev e) ⟨some dd, op, ty, pos, af, none⟩).run P w = .ok (.value v) w) (hS : S w) (k : wo P l0 T S Q r (upd e dd v) w) : wo P l0 T S Q ((i, true) :: r) e w :=
  ⟨_, v, hi, hS, .inl ⟨rfl, hr⟩, k⟩
theorem d_g {u q : Bool} (hi : nth l0 i = some ⟨some dd, op, ty, pos, af, some (j, u)⟩) (hw : wantedE l0 ⟨some dd, op, ty, pos, af, some (j, u)⟩ e = q) (hr : q = true → ∀ w, S w → (execOp (ev e) ⟨some dd, op, ty, pos, af, some (j, u)⟩).run P w = .ok (.value v) w) (hS : S w) (k : wo P l0 T S Q r (upd e dd (sel q v)) w) : wo P l0 T S Q ((i, true) :: r) e w := by
  refine ⟨_, sel q v, hi, hS, ?_, k⟩
  cases q with
  | true => exact .inl ⟨hw, hr rfl⟩
  | false => exact .inr ⟨hw, rfl⟩
theorem pT (hi : nth l0 i = some ⟨some dd, op, ty, pos, af, some (j, true)⟩) (ht : gd l0 j = some t) (hb : e t = .bool b) (hr : b = true → ∀ w, S w → (execOp (ev e) ⟨some dd, op, ty, pos, af, some (j, true)⟩).run P w = .ok (.value v) w) (hS : S w) (k : wo P l0 T S Q r (upd e dd (sel b v)) w) : wo P l0 T S Q ((i, true) :: r) e w :=
  d_g hi (by rw [wanted_of rfl ht hb]; cases b <;> rfl) hr hS k
theorem pF (hi : nth l0 i = some ⟨some dd, op, ty, pos, af, some (j, false)⟩) (ht : gd l0 j = some t) (hb : e t = .bool b) (hr : (!b) = true → ∀ w, S w → (execOp (ev e) ⟨some dd, op, ty, pos, af, some (j, false)⟩).run P w = .ok (.value v) w) (hS : S w) (k : wo P l0 T S Q r (upd e dd (sel (!b) v)) w) : wo P l0 T S Q ((i, true) :: r) e w :=
  d_g hi (by rw [wanted_of rfl ht hb]; cases b <;> rfl) hr hS k
theorem pTs (hi : nth l0 i = some ⟨some dd, op, ty, pos, af, some (j, true)⟩) (ht : gd l0 j = some t) (hb : e t = sel c (.bool b)) (hr : (c && b) = true → ∀ w, S w → (execOp (ev e) ⟨some dd, op, ty, pos, af, some (j, true)⟩).run P w = .ok (.value v) w) (hS : S w) (k : wo P l0 T S Q r (upd e dd (sel (c && b) v)) w) : wo P l0 T S Q ((i, true) :: r) e w :=
  d_g hi (by rw [wanted_of_sel rfl ht hb]; cases b <;> rfl) hr hS k
theorem pFs (hi : nth l0 i = some ⟨some dd, op, ty, pos, af, some (j, false)⟩) (ht : gd l0 j = some t) (hb : e t = sel c (.bool b)) (hr : (c && !b) = true → ∀ w, S w → (execOp (ev e) ⟨some dd, op, ty, pos, af, some (j, false)⟩).run P w = .ok (.value v) w) (hS : S w) (k : wo P l0 T S Q r (upd e dd (sel (c && !b) v)) w) : wo P l0 T S Q ((i, true) :: r) e w :=
  d_g hi (by rw [wanted_of_sel rfl ht hb]; cases b <;> rfl) hr hS k
theorem po (hi : nth l0 i = some ⟨some dd, op, ty, pos, af, none⟩) (h : OwpE P ⟨some dd, op, ty, pos, af, none⟩ e w (fun v w' => (nth T i ≠ some false → S w') ∧ wo P l0 T S Q r (upd e dd v) w')) : wo P l0 T S Q ((i, false) :: r) e w := ⟨_, hi, h⟩
theorem ps (hi : nth l0 i = some ⟨none, op, ty, pos, af, none⟩) (h : OwpE P ⟨none, op, ty, pos, af, none⟩ e w (fun _ w' => (nth T i ≠ some false → S w') ∧ wo P l0 T S Q r e w')) : wo P l0 T S Q ((i, false) :: r) e w := ⟨_, hi, h⟩
/-- A guarded effect whose value is known, and that keeps I. -/
theorem d_gw {u q : Bool} {I : World → Prop} (hi : nth l0 i = some ⟨some dd, op, ty, pos, af, some (j, u)⟩) (hw : wantedE l0 ⟨some dd, op, ty, pos, af, some (j, u)⟩ e = q) (h0 : I w) (hr : q = true → OwpE P ⟨some dd, op, ty, pos, af, some (j, u)⟩ e w (fun x w' => x = v ∧ I w')) (k : ∀ w', I w' → (nth T i ≠ some false → S w') ∧ wo P l0 T S Q r (upd e dd (sel q v)) w') : wo P l0 T S Q ((i, false) :: r) e w := by
  refine ⟨_, hi, ?_⟩
  rw [hw]
  cases q with
  | true => exact OwpE.mono (hr rfl) fun x w' ⟨hx, hI⟩ => by subst hx; exact k w' hI
  | false => exact k w h0
theorem pTw {I : World → Prop} (hi : nth l0 i = some ⟨some dd, op, ty, pos, af, some (j, true)⟩) (ht : gd l0 j = some t) (hb : e t = .bool b) (h0 : I w) (hr : b = true → OwpE P ⟨some dd, op, ty, pos, af, some (j, true)⟩ e w (fun x w' => x = v ∧ I w')) (k : ∀ w', I w' → (nth T i ≠ some false → S w') ∧ wo P l0 T S Q r (upd e dd (sel b v)) w') : wo P l0 T S Q ((i, false) :: r) e w :=
  d_gw hi (by rw [wanted_of rfl ht hb]; cases b <;> rfl) h0 hr k
theorem pFw {I : World → Prop} (hi : nth l0 i = some ⟨some dd, op, ty, pos, af, some (j, false)⟩) (ht : gd l0 j = some t) (hb : e t = .bool b) (h0 : I w) (hr : (!b) = true → OwpE P ⟨some dd, op, ty, pos, af, some (j, false)⟩ e w (fun x w' => x = v ∧ I w')) (k : ∀ w', I w' → (nth T i ≠ some false → S w') ∧ wo P l0 T S Q r (upd e dd (sel (!b) v)) w') : wo P l0 T S Q ((i, false) :: r) e w :=
  d_gw hi (by rw [wanted_of rfl ht hb]; cases b <;> rfl) h0 hr k
end

/-! ### A function's begin and end -/
def resR (P : Program) (e : Env) (w : World) : List ResultVar → List Value → Prop
  | [], vs => vs = []
  | .tmp t :: l, vs => ∃ us, vs = e t :: us ∧ resR P e w l us
  | .cell a t :: l, vs => ∃ ad v us, e a = .pointer (some ad) ∧ (loadVar t ad).run P w = .ok v w ∧ vs = v :: us ∧ resR P e w l us
def tupled : List Value → Value
  | [v] => v
  | vs => .tuple vs.toArray
def retE (P : Program) (fn : Func) (R : Value → World → Prop) (e : Env) (w : World) : Prop := ∃ vs, resR P e w fn.results.toList vs ∧ R (tupled vs) w
def bodyE (Rt : Env → World → Prop) : Post
  | .normal, e, w => Rt e w
  | _, _, _ => False

theorem body_n {Rt : Env → World → Prop} {e : Env} {w : World} (h : Rt e w) : bodyE Rt .normal e w := h
theorem run_results {P : Program} {N : Nat} {a : Act} {e : Env} {w : World} (ha : Agr N a e) (fn : Func) {vs : List Value} (h : resR P e w fn.results.toList vs) : (results fn a.tmps).run P w = .ok (tupled vs) w := by
  have key : ∀ (l : List ResultVar) vs, resR P e w l vs → (l.mapM (fun
      | .tmp t => pure (a.tmps.getD t undef)
      | .cell b t => do loadVar t (← asAddr (a.tmps.getD b undef)) : ResultVar → Sem Value)).run P w = .ok vs w := by
    intro l
    induction l with
    | nil => intro vs h; simp only [resR] at h; subst h; simp
    | cons x l ih =>
      intro vs h
      cases x with
      | cell b t =>
        obtain ⟨ad, v, us, h1, h2, rfl, h3⟩ := h
        have := ih us h3
        have hg : a.tmps.getD b undef = .pointer (some ad) := (ha.g b).trans h1
        rw [List.mapM_cons]
        have hs : asAddr (.pointer (some ad)) = pure ad := rfl
        simp only [hg, hs, Sem.run_bind, Sem.run_pure, Result.andThen_ok, h2, this]
      | tmp t =>
        obtain ⟨us, rfl, h3⟩ := h
        have := ih us h3
        have hg := ha.g t
        simp only [Array.getD_eq_getD_getElem?] at hg this ⊢
        simp [List.mapM_cons, hg, this]
  have hk := key _ _ h
  unfold results
  generalize fn.results = q at hk
  cases q with | mk q
  simp only [List.mapM_toArray, Sem.run_bind, Sem.run_map, Sem.run_pure]
  generalize hF : List.mapM (m := Sem) (β := Value) _ q = s
  have hs : s.run P w = .ok vs w := by rw [← hF]; exact hk
  rw [hs]
  match vs with
  | [] => rfl
  | [v] => rfl
  | v :: u :: vs => rfl

theorem f_enter {P : Program} {f : Nat} {fn : Func} {c : Code} {args : List Value} {w : World} {R : Value → World → Prop} (hf : P.funcs[f]? = some fn) (hb : fn.body = some c) (hl' : Nat.ble args.length fn.ntmps = true)
    (h : wpE P fn.ntmps (retE P fn R) c (bodyE (retE P fn R)) (envOf args) w) : Cl P f args.toArray w R := by
  have hl := Nat.le_of_ble_eq_true hl'
  refine calls_of_wp hf hb (wp_mono (h _ ?_) fun x a' w' hx => ?_)
  · refine ⟨rfl, by simp; omega, fun i => ?_⟩
    have key : ∀ (l : List Value) (i : Nat), envOf l i = l.getD i undef := by
      intro l
      induction l with
      | nil => intro i; rfl
      | cons v l ih => intro i; cases i with | zero => rfl | succ i => exact (ih i).trans rfl
    rw [key]
    simp only [Array.getD_eq_getD_getElem?, List.getD_eq_getElem?_getD]
    by_cases hi : i < args.length
    · rw [Array.getElem?_append_left (by simpa using hi)]
      simp
    · rw [Array.getElem?_append_right (by simpa using Nat.le_of_not_lt hi), List.getElem?_eq_none (Nat.le_of_not_lt hi)]
      rw [Array.getElem?_replicate]
      split <;> rfl
  · obtain ⟨e', ha, hq⟩ := hx
    cases x with
    | normal => obtain ⟨vs, hv, hp⟩ := hq; exact ⟨ha.d, _, run_results ha fn hv, _, rfl, hp⟩
    | ret => obtain ⟨vs, hv, hp⟩ := hq; exact ⟨ha.d, _, run_results ha fn hv, _, rfl, hp⟩
    | exit id => exact hq.elim
    | goto l => exact hq.elim
    | panic c => exact hq.elim
    | outgrown => exact hq.elim

section
variable {P : Program} {fn : Func} {R : Value → World → Prop} {e : Env} {w : World}
theorem ret0 (h : fn.results.toList = []) (hR : R (.tuple #[]) w) : retE P fn R e w := ⟨[], by rw [h]; rfl, hR⟩
theorem ret1 {t : Nat} {v : Value} (h : fn.results.toList = [.tmp t]) (hv : e t = v) (hR : R v w) : retE P fn R e w := ⟨[v], by rw [h]; exact ⟨[], by rw [hv], rfl⟩, hR⟩
theorem ret2 {t t' : Nat} {v v' : Value} (h : fn.results.toList = [.tmp t, .tmp t']) (hv : e t = v) (hv' : e t' = v') (hR : R (.tuple #[v, v']) w) : retE P fn R e w :=
  ⟨[v, v'], by rw [h]; exact ⟨[v'], by rw [hv], [], by rw [hv'], rfl⟩, hR⟩
theorem ret3 {t t' t'' : Nat} {v v' v'' : Value} (h : fn.results.toList = [.tmp t, .tmp t', .tmp t'']) (hv : e t = v) (hv' : e t' = v') (hv'' : e t'' = v'') (hR : R (.tuple #[v, v', v'']) w) : retE P fn R e w :=
  ⟨[v, v', v''], by rw [h]; exact ⟨[v', v''], by rw [hv], [v''], by rw [hv'], [], by rw [hv''], rfl⟩, hR⟩
/-- One result that lies in memory, a block of its own. -/
theorem retc {t T T' b n : Nat} {cs : List Value} [h' : Ag P T n] (h : fn.results.toList = [.cell t T]) (hv : e t = .pointer (some ⟨b, 0, none⟩)) (hb : w.heap[b]? = some (.cells cs.toArray T' (0, 0))) (hn : cs.length = n) (hR : R (.agg cs.toArray) w) : retE P fn R e w := by
  obtain ⟨dd, hu, hd⟩ := h'.h
  exact ⟨[.agg cs.toArray], by rw [h]; exact ⟨_, _, [], hv, run_loadVar_row w b T' T cs.toArray (0, 0) dd hb hu (by cases dd <;> first | rfl | cases hd) (by rw [h'.s]; simp [hn]), rfl, rfl⟩, hR⟩
/-- Two results, the first one in memory. -/
theorem retc2 {t t' T T' b n : Nat} {cs : List Value} {v : Value} [h' : Ag P T n] (h : fn.results.toList = [.cell t T, .tmp t']) (hv : e t = .pointer (some ⟨b, 0, none⟩)) (hb : w.heap[b]? = some (.cells cs.toArray T' (0, 0))) (hn : cs.length = n) (hv' : e t' = v) (hR : R (.tuple #[.agg cs.toArray, v]) w) : retE P fn R e w := by
  obtain ⟨dd, hu, hd⟩ := h'.h
  exact ⟨[.agg cs.toArray, v], by rw [h]; exact ⟨_, _, [v], hv, run_loadVar_row w b T' T cs.toArray (0, 0) dd hb hu (by cases dd <;> first | rfl | cases hd) (by rw [h'.s]; simp [hn]), rfl, [], by rw [hv'], rfl⟩, hR⟩
theorem lv_row {T T' b n : Nat} {cs : List Value} [h' : Ag P T n] (hb : w.heap[b]? = some (.cells cs.toArray T' (0, 0))) (hn : cs.length = n) : (loadVar T ⟨b, 0, none⟩).run P w = .ok (.agg cs.toArray) w := by
  obtain ⟨dd, hu, hd⟩ := h'.h
  exact run_loadVar_row w b T' T cs.toArray (0, 0) dd hb hu (by cases dd <;> first | rfl | cases hd) (by rw [h'.s]; simp [hn])
theorem lv_one {T T' b : Nat} {v : Value} [h' : Sc P T] (hb : w.heap[b]? = some (.cells [v].toArray T' (0, 0))) : (loadVar T ⟨b, 0, none⟩).run P w = .ok v w := by
  have hc : w.cell? ⟨b, 0, none⟩ = some v := by rw [cell_of_row w b 0 _ _ _ hb]; rfl
  simp [loadVar, scalar_run, hc]
end

end K
end Go.Proofs.Ytbcpabfemejlgaa
/- The walk's own small logic, sixth part: more operations, small words. (Printed by gen/mkg.py.) -/
namespace Go.Proofs.Ytbcpabfemejlgaa
namespace K

theorem wi {n : Int} (h : -9223372036854775808 ≤ n) (h' : n ≤ 9223372036854775807) : IntKind.i64.wrap n = n :=
  IntWalk.i64_in n (by omega)
theorem wu8 {n : Int} (h : 0 ≤ n) (h' : n ≤ 255) : IntKind.u8.wrap n = n := by
  simp only [IntKind.wrap, IntKind.bits, IntKind.signed]; simp; omega
theorem wu16 {n : Int} (h : 0 ≤ n) (h' : n ≤ 65535) : IntKind.u16.wrap n = n := by
  simp only [IntKind.wrap, IntKind.bits, IntKind.signed]; simp; omega
theorem wu32 {n : Int} (h : 0 ≤ n) (h' : n ≤ 4294967295) : IntKind.u32.wrap n = n := by
  simp only [IntKind.wrap, IntKind.bits, IntKind.signed]; simp; omega
theorem wu64 {n : Int} (h : 0 ≤ n) (h' : n ≤ 18446744073709551615) : IntKind.u64.wrap n = n := by
  simp only [IntKind.wrap, IntKind.bits, IntKind.signed]; simp; omega

theorem wu64n {x : Int} (h : 0 ≤ x) (h' : x ≤ 9223372036854775807) : IntKind.u64.wrap x = ((x.toNat : Nat) : Int) := by
  rw [wu64 h (by omega)]; omega
@[reducible] def Sof {w0 w : World} {F0 : Nat → Prop} {L : List It} (_ : Mem w0 F0 w L) : World → Prop := fun w' => Mem w0 F0 w' L

section
variable {P : Program} {e : Env} {w : World} {d : Option Nat} {ty : Nat} {pos : String} {af : Array Edge} {g : Option (Nat × Bool)} {K : Value → World → Prop}
variable {w0 : World} {F0 : Nat → Prop} {L : List It}

theorem src_own {sz t el n c : Nat} {a : Option Addr} {news : List Value} [h : TSl P t el] {by_ : Nat} {z : List Value} [he : El P el sz by_ z] (m : Mem w0 F0 w L) (k : Nat) (hk : nth L k = some (own el sz a n c news)) (h1 : ones news = true) : Src P sz t (.slice a n c) n news w := by
  obtain ⟨_, _, _, _, _, _, _, _, h0⟩ := he.h
  exact src_cells (m.c k hk) (own_len (m.o k hk)) h1 h0
theorem r_min2 {x y : Operand} {t t' : Nat} {k : IntKind} {a b : Int} (hx : ev e x = .int k a) (hy : ev e y = .int k b) : (execOp (ev e) ⟨d, .call ⟨.builtin .min, #[x, y], #[t, t']⟩, ty, pos, af, g⟩).run P w = .ok (.value (.int k (min a b))) w := by
  have e1 : (#[x, y] : Array Operand).map (ev e) = #[.int k a, .int k b] := by simp [hx, hy]
  have e2 : (if b < a then b else a) = min a b := by split <;> omega
  rw [x_builtin, e1]
  unfold builtin
  simp only [Builtin.min_, List.foldlM_cons, List.foldlM_nil, Builtin.min2, e2]
  rfl
theorem r_max2 {x y : Operand} {t t' : Nat} {k : IntKind} {a b : Int} (hx : ev e x = .int k a) (hy : ev e y = .int k b) : (execOp (ev e) ⟨d, .call ⟨.builtin .max, #[x, y], #[t, t']⟩, ty, pos, af, g⟩).run P w = .ok (.value (.int k (max a b))) w := by
  have e1 : (#[x, y] : Array Operand).map (ev e) = #[.int k a, .int k b] := by simp [hx, hy]
  have e2 : (if a < b then b else a) = max a b := by split <;> omega
  rw [x_builtin, e1]
  unfold builtin
  simp only [Builtin.max_, List.foldlM_cons, List.foldlM_nil, Builtin.max2, gt_iff_lt, e2]
  rfl
/-- A slice of bytes, made a text. -/
theorem r_b2s {x : Operand} {src dst el n c : Nat} {a : Option Addr} {bs : List UInt8} [hs : TSl P src el] [he : TInt P el .u8] [hd : TStr P dst] (hx : ev e x = .slice a n c) (hc : Cells w a (u8s bs)) (hn : bs.length = n) :
    (execOp (ev e) ⟨d, .convert src dst x, ty, pos, af, g⟩).run P w = .ok (.value (str bs)) w := by
  subst hn
  have h1 := run_convert_bytes_string (P := P) w src dst el a bs.length c hs.h he.h hd.h
  have h2 : (Conv.bytesToString (.slice a bs.length c)).run P w = .ok (str bs) w := by
    cases a with
    | none =>
      have : bs = [] := by
        cases bs with
        | nil => rfl
        | cons b l => obtain ⟨_, h, _⟩ := hc 0 (u8 b) rfl; cases h
      subst this
      rfl
    | some ad =>
      have h3 := run_bytesToString (P := P) w ad bs.length c (bs.map fun b => (b.toNat : Int)) (by
        have := run_loadCells_list (P := P) w ad (u8s bs) (fun j v hv => by
          obtain ⟨ad', h1, h2⟩ := hc j v (by rw [nth_eq]; exact hv)
          injection h1 with h1; subst h1; exact h2)
        rw [u8s_length] at this
        rw [this]
        simp [u8s, u8])
      rw [h3]
      congr 2
      have key : ∀ (l : List UInt8) (s : ByteArray), (l.map fun b => (b.toNat : Int)).foldl (fun r n => r.push (UInt8.ofNat n.toNat)) s = ⟨(s.data.toList ++ l).toArray⟩ := by
        intro l
        induction l with
        | nil => intro s; simp
        | cons b l ih => intro s; simp only [List.map_cons, List.foldl_cons, ih]; simp [ByteArray.push]
      rw [key]
      simp [str]
  simp only [execOp, hx, Sem.run_bind, h1, h2, Result.andThen_ok, Sem.run_pure]

/-! structs and arrays built of parts -/
def fillL (pl : Nat → Option (Nat × Nat)) : List Value → List (Nat × Value) → Option (List Value)
  | cells, [] => some cells
  | cells, (i, v) :: rest =>
    match pl i with
    | none => none
    | some (off, size) => bif Nat.beq v.cells.toList.length size && Nat.ble (off + size) cells.length then fillL pl (spl cells off v.cells.toList) rest else none
class Bd (P : Program) (t : Nat) (z : outParam (List Value)) (pl : outParam (Nat → Option (Nat × Nat))) : Prop where
  h : ∀ parts cs, fillL pl z parts = some cs → P.built t parts = some cs.toArray
theorem foldl_splice : ∀ (vs : List Value) (cells : Array Value) (off k : Nat), off + k + vs.length ≤ cells.size →
    (vs.zipIdx k).foldl (fun cs (x : Value × Nat) => cs.setIfInBounds (off + x.2) x.1) cells = (splice cells.toList (off + k) vs).toArray := by
  intro vs
  induction vs with
  | nil => intro cells off k h; simp [splice]
  | cons v vs ih =>
    intro cells off k h
    simp only [List.length_cons] at h
    simp only [List.zipIdx_cons, List.foldl_cons]
    rw [ih _ off (k + 1) (by simp; omega)]
    have := list_seg_step cells.toList (off + k) v vs (by simp; omega)
    simp only [splice, Array.toList_setIfInBounds, List.length_cons]
    rw [show off + (k + 1) = off + k + 1 from by omega, this]
theorem fill_eq {pl : Nat → Option (Nat × Nat)} : ∀ (parts : List (Nat × Value)) (cells cs : List Value), fillL pl cells parts = some cs → Instr.fill pl cells.toArray parts = some cs.toArray := by
  intro parts
  induction parts with
  | nil => intro cells cs h; simp only [fillL, Option.some.injEq] at h; subst h; rfl
  | cons p rest ih =>
    obtain ⟨i, v⟩ := p
    intro cells cs h
    simp only [fillL] at h
    unfold Instr.fill
    cases hp : pl i with
    | none => rw [hp] at h; cases h
    | some q =>
      obtain ⟨off, size⟩ := q
      rw [hp] at h
      simp only at h ⊢
      cases hb : (Nat.beq v.cells.toList.length size && Nat.ble (off + size) cells.length) with
      | false => rw [hb] at h; cases h
      | true =>
        rw [hb] at h
        simp only [cond_true] at h
        simp only [Bool.and_eq_true] at hb
        have h1 := Nat.eq_of_beq_eq_true hb.1
        have h2 := Nat.le_of_ble_eq_true hb.2
        simp only [Array.length_toList] at h1
        rw [spl_eq _ _ _ (by simp; omega)] at h
        have h3 : ¬ (v.cells.size ≠ size) := by omega
        have h4 : ¬ (cells.toArray.size < off + v.cells.size) := by simp; omega
        rw [if_neg (by simp [h1]; omega)]
        have := foldl_splice v.cells.toList cells.toArray off 0 (by simp; omega)
        simp only [Nat.add_zero] at this
        have e1 : (v.cells.zipIdx.foldl (fun cs (x : Value × Nat) => cs.setIfInBounds (off + x.2) x.1) cells.toArray) = (splice cells off v.cells.toList).toArray := by
          rw [← this]
          generalize v.cells = A
          cases A with | mk l
          simp
        have e2 := ih _ _ h
        rw [← e1] at e2
        exact e2
theorem bd_struct {t : Nat} {fs : Array Field} {z : List Value} {pl : List (Nat × Nat)} (hz : (P.info? t).map (fun i => i.zero.map (·.cells.toList)) = some (some z)) (hu : P.underlying t = some (.struct fs))
    (hp : fs.toList.mapM (fun f => (P.info? f.type).map fun i => (f.offset, i.size)) = some pl) : Bd P t z (nth pl) := by
  refine ⟨fun parts cs h => ?_⟩
  unfold Program.built
  cases hi : P.info? t with
  | none => rw [hi] at hz; cases hz
  | some it =>
    rw [hi] at hz
    simp only [Option.map_some, Option.some.injEq] at hz
    rw [hu]
    cases hzz : it.zero with
    | none => rw [hzz] at hz; cases hz
    | some zv =>
      rw [hzz] at hz
      simp only [Option.map_some, Option.some.injEq] at hz
      simp only [hp, hzz]
      have h1 := fill_eq parts z cs h
      have h2 : zv.cells = z.toArray := by rw [← hz]
      rw [h2, ← h1]
      congr 1
      funext i
      rw [List.getElem?_toArray, nth_eq]
theorem bd_array {t n el sz : Nat} {z : List Value} (hz : (P.info? t).map (fun i => i.zero.map (·.cells.toList)) = some (some z)) (hu : P.underlying t = some (.array n el))
    (hp : (P.info? el).map (·.size) = some sz) : Bd P t z (fun i => some (i * sz, sz)) := by
  refine ⟨fun parts cs h => ?_⟩
  unfold Program.built
  cases hi : P.info? t with
  | none => rw [hi] at hz; cases hz
  | some it =>
    rw [hi] at hz
    simp only [Option.map_some, Option.some.injEq] at hz
    rw [hu]
    cases hzz : it.zero with
    | none => rw [hzz] at hz; cases hz
    | some zv =>
      rw [hzz] at hz
      simp only [Option.map_some, Option.some.injEq] at hz
      cases he : P.info? el with
      | none => rw [he] at hp; cases hp
      | some ie =>
        rw [he] at hp
        simp only [Option.map_some, Option.some.injEq] at hp
        subst hp
        have h2 : zv.cells = z.toArray := by rw [← hz]
        have h3 := fill_eq parts z cs h
        rw [← h2] at h3
        simp only [hzz, he, h3]
inductive BdV (e : Env) : List (Nat × Operand) → List (Nat × Value) → Prop
  | nil : BdV e [] []
  | cons {i : Nat} {x : Operand} {v : Value} {l : List (Nat × Operand)} {vs : List (Nat × Value)} (h : ev e x = v) (t : BdV e l vs) : BdV e ((i, x) :: l) ((i, v) :: vs)
theorem BdV.eq {e : Env} {l : List (Nat × Operand)} {vs : List (Nat × Value)} (h : BdV e l vs) : l.map (fun p => (p.1, ev e p.2)) = vs := by
  induction h with
  | nil => rfl
  | cons h _ ih => subst h; rw [List.map_cons, ih]
section
variable {i : Nat} {x : Operand} {l : List (Nat × Operand)} {vs : List (Nat × Value)}
theorem bN : BdV e [] [] := .nil
theorem bv {v : Value} (h : ev e x = v) (t : BdV e l vs) : BdV e ((i, x) :: l) ((i, v) :: vs) := .cons h t
theorem bi {k : IntKind} {n : Int} (h : ev e x = .int k n) (t : BdV e l vs) : BdV e ((i, x) :: l) ((i, .int k n) :: vs) := .cons h t
theorem bt {s : List UInt8} (h : ev e x = str s) (t : BdV e l vs) : BdV e ((i, x) :: l) ((i, str s) :: vs) := .cons h t
theorem bb {b : Bool} (h : ev e x = .bool b) (t : BdV e l vs) : BdV e ((i, x) :: l) ((i, .bool b) :: vs) := .cons h t
theorem bs {a : Option Addr} {n c : Nat} (h : ev e x = .slice a n c) (t : BdV e l vs) : BdV e ((i, x) :: l) ((i, .slice a n c) :: vs) := .cons h t
theorem bp {a : Option Addr} (h : ev e x = .pointer a) (t : BdV e l vs) : BdV e ((i, x) :: l) ((i, .pointer a) :: vs) := .cons h t
theorem bg {cs : List Value} (h : ev e x = .agg cs.toArray) (t : BdV e l vs) : BdV e ((i, x) :: l) ((i, .agg cs.toArray) :: vs) := .cons h t
end
theorem r_bd {t : Nat} {parts : Array (Nat × Operand)} {vs : List (Nat × Value)} {cs z : List Value} {pl : Nat → Option (Nat × Nat)} [h : Bd P t z pl] (hv' : BdV e parts.toList vs) (hf : fillL pl z vs = some cs) :
    (execOp (ev e) ⟨d, .build t parts, ty, pos, af, g⟩).run P w = .ok (.value (.agg cs.toArray)) w := by
  have hv := hv'.eq
  have h1 : (parts.map fun (i, x) => (i, ev e x)).toList = vs := by rw [← hv]; simp
  have h2 := run_build (P := P) w t (parts.map fun (i, x) => (i, ev e x)) cs.toArray (by rw [h1]; exact h.h _ _ hf)
  simp only [execOp, Sem.run_bind, h2, Result.andThen_ok, Sem.run_pure]

theorem o_bi1 {t el by_ : Nat} {x0 : Operand} {k0 : IntKind} {n0 : Int} {zv : Value} [ht : TSl P t el] [he : El P el 1 by_ [zv]] (m : Mem w0 F0 w L) (h0 : ev e x0 = .int k0 n0)
    (hK : ∀ a c w', Mem w0 F0 w' (L ++ [own el 1 a 1 c [.int k0 n0]]) → K (.slice a 1 c) w') : OwpE P ⟨d, .buildSlice t 1 #[(0, x0)], ty, pos, af, g⟩ e w K := o_bs1 m h0 rfl hK

theorem o_bi2 {t el by_ : Nat} {x0 x1 : Operand} {k0 k1 : IntKind} {n0 n1 : Int} {zv : Value} [ht : TSl P t el] [he : El P el 1 by_ [zv]] (m : Mem w0 F0 w L) (h0 : ev e x0 = .int k0 n0) (h1 : ev e x1 = .int k1 n1)
    (hK : ∀ a c w', Mem w0 F0 w' (L ++ [own el 1 a 2 c [.int k0 n0, .int k1 n1]]) → K (.slice a 2 c) w') : OwpE P ⟨d, .buildSlice t 2 #[(0, x0), (1, x1)], ty, pos, af, g⟩ e w K := o_bs2 m h0 rfl h1 rfl hK

theorem o_bi3 {t el by_ : Nat} {x0 x1 x2 : Operand} {k0 k1 k2 : IntKind} {n0 n1 n2 : Int} {zv : Value} [ht : TSl P t el] [he : El P el 1 by_ [zv]] (m : Mem w0 F0 w L) (h0 : ev e x0 = .int k0 n0) (h1 : ev e x1 = .int k1 n1) (h2 : ev e x2 = .int k2 n2)
    (hK : ∀ a c w', Mem w0 F0 w' (L ++ [own el 1 a 3 c [.int k0 n0, .int k1 n1, .int k2 n2]]) → K (.slice a 3 c) w') : OwpE P ⟨d, .buildSlice t 3 #[(0, x0), (1, x1), (2, x2)], ty, pos, af, g⟩ e w K := o_bs3 m h0 rfl h1 rfl h2 rfl hK

theorem o_bi4 {t el by_ : Nat} {x0 x1 x2 x3 : Operand} {k0 k1 k2 k3 : IntKind} {n0 n1 n2 n3 : Int} {zv : Value} [ht : TSl P t el] [he : El P el 1 by_ [zv]] (m : Mem w0 F0 w L) (h0 : ev e x0 = .int k0 n0) (h1 : ev e x1 = .int k1 n1) (h2 : ev e x2 = .int k2 n2) (h3 : ev e x3 = .int k3 n3)
    (hK : ∀ a c w', Mem w0 F0 w' (L ++ [own el 1 a 4 c [.int k0 n0, .int k1 n1, .int k2 n2, .int k3 n3]]) → K (.slice a 4 c) w') : OwpE P ⟨d, .buildSlice t 4 #[(0, x0), (1, x1), (2, x2), (3, x3)], ty, pos, af, g⟩ e w K := o_bs4 m h0 rfl h1 rfl h2 rfl h3 rfl hK

theorem o_bi5 {t el by_ : Nat} {x0 x1 x2 x3 x4 : Operand} {k0 k1 k2 k3 k4 : IntKind} {n0 n1 n2 n3 n4 : Int} {zv : Value} [ht : TSl P t el] [he : El P el 1 by_ [zv]] (m : Mem w0 F0 w L) (h0 : ev e x0 = .int k0 n0) (h1 : ev e x1 = .int k1 n1) (h2 : ev e x2 = .int k2 n2) (h3 : ev e x3 = .int k3 n3) (h4 : ev e x4 = .int k4 n4)
    (hK : ∀ a c w', Mem w0 F0 w' (L ++ [own el 1 a 5 c [.int k0 n0, .int k1 n1, .int k2 n2, .int k3 n3, .int k4 n4]]) → K (.slice a 5 c) w') : OwpE P ⟨d, .buildSlice t 5 #[(0, x0), (1, x1), (2, x2), (3, x3), (4, x4)], ty, pos, af, g⟩ e w K := o_bs5 m h0 rfl h1 rfl h2 rfl h3 rfl h4 rfl hK

theorem o_bi6 {t el by_ : Nat} {x0 x1 x2 x3 x4 x5 : Operand} {k0 k1 k2 k3 k4 k5 : IntKind} {n0 n1 n2 n3 n4 n5 : Int} {zv : Value} [ht : TSl P t el] [he : El P el 1 by_ [zv]] (m : Mem w0 F0 w L) (h0 : ev e x0 = .int k0 n0) (h1 : ev e x1 = .int k1 n1) (h2 : ev e x2 = .int k2 n2) (h3 : ev e x3 = .int k3 n3) (h4 : ev e x4 = .int k4 n4) (h5 : ev e x5 = .int k5 n5)
    (hK : ∀ a c w', Mem w0 F0 w' (L ++ [own el 1 a 6 c [.int k0 n0, .int k1 n1, .int k2 n2, .int k3 n3, .int k4 n4, .int k5 n5]]) → K (.slice a 6 c) w') : OwpE P ⟨d, .buildSlice t 6 #[(0, x0), (1, x1), (2, x2), (3, x3), (4, x4), (5, x5)], ty, pos, af, g⟩ e w K := o_bs6 m h0 rfl h1 rfl h2 rfl h3 rfl h4 rfl h5 rfl hK

theorem o_bs0 {t el sz by_ : Nat} {zv : List Value} [ht : TSl P t el] [he : El P el sz by_ zv] (m : Mem w0 F0 w L) (hK : ∀ a c w', Mem w0 F0 w' (L ++ [own el sz a 0 c []]) → K (.slice a 0 c) w') : OwpE P ⟨d, .buildSlice t 0 #[], ty, pos, af, g⟩ e w K := by
  obtain ⟨i, zv', hi, hsz, _⟩ := he.h
  unfold OwpE
  simp only [execOp, Instr.buildSlice, Sem.run_bind, run_underlying ht.h, Result.andThen_ok, sizeOf, typeInfo, run_program, hi, Sem.run_pure, hsz]
  simp [Instr.fill, newRow]
  have e1 : (Array.range 0).map (fun _ => (default : Value)) = ([] : List Value).toArray := by simp
  rw [e1]
  exact hK _ _ _ (own_made (n := 0) (cs := []) m (by simp) (by decide))
end

end K
end Go.Proofs.Ytbcpabfemejlgaa
/- The walk's own small logic, eighth part: rows of structs, arrays as slices, zeros appended, more comparisons. -/
namespace Go.Proofs.Ytbcpabfemejlgaa
namespace K

section
variable {P : Program} {e : Env} {w : World} {d : Option Nat} {ty : Nat} {pos : String} {af : Array Edge} {g : Option (Nat × Bool)} {K : Value → World → Prop}
variable {w0 : World} {F0 : Nat → Prop} {L : List It}

/-- A struct loaded from a row, its cells known. -/
theorem r_ldce {t j n : Nat} {x : Operand} {a : Option Addr} {cs ds : List Value} [h : Ag P t n] (hx : ev e x = .pointer (a.map (·.add j))) (hc : Cells w a cs) (hd : seg cs j n = ds) (hl : j + n ≤ cs.length) (h0 : 0 < n) :
    (execOp (ev e) ⟨d, .load t x, ty, pos, af, g⟩).run P w = .ok (.value (.agg ds.toArray)) w := by subst hd; exact r_ldca hx hc hl h0
/-- A row's load of a field of one cell, its cell known. -/
theorem r_ldcv {t j : Nat} {x : Operand} {a : Option Addr} {cs : List Value} {v : Value} [h : Sc P t] (hx : ev e x = .pointer (a.map (·.add j))) (hc : Cells w a cs) (hv : nth cs j = some v) :
    (execOp (ev e) ⟨d, .load t x, ty, pos, af, g⟩).run P w = .ok (.value v) w := r_ldc hx hc hv
/-- A whole array as a slice. -/
theorem r_sarr {t el n b : Nat} {x : Operand} [h : TArr P t n el] {sz by_ : Nat} {z : List Value} [he : El P el sz by_ z] (hx : ev e x = .pointer (some ⟨b, 0, none⟩)) :
    (execOp (ev e) ⟨d, .slice t x none none none, ty, pos, af, g⟩).run P w = .ok (.value (.slice (some ⟨b, 0, none⟩) n n)) w := by
  obtain ⟨i, zv, hi, hsz, _⟩ := he.h
  simp only [execOp, hx, Option.map_none, Instr.sliceAt, Sem.run_bind, run_underlying h.h, Result.andThen_ok, Instr.sureAddr, Instr.sliceBounds, Sem.run_pure, sizeOf, typeInfo, run_program, hi, Nat.zero_mul, Nat.sub_zero]
  have : (⟨b, 0, none⟩ : Addr).add 0 = ⟨b, 0, none⟩ := rfl
  rw [this]
  simp
/-- A slice as an array's address. -/
theorem r_s2a {t el n m c : Nat} {x : Operand} {a : Option Addr} [h : TArr P t n el] (hx : ev e x = .slice a m c) (hm : n ≤ m) :
    (execOp (ev e) ⟨d, .sliceToArrayPointer t x, ty, pos, af, g⟩).run P w = .ok (.value (.pointer (a.map (·.add 0)))) w := by
  have : ¬ (m < n) := by omega
  simp [execOp, hx, Instr.arrayAt, run_underlying h.h, this, opt_add0]
theorem r_cap {x : Operand} {t el : Nat} {a : Option Addr} {n c : Nat} [h : TSl P t el] (hx : ev e x = .slice a n c) : (execOp (ev e) ⟨d, .call ⟨.builtin .cap, #[x], #[t]⟩, ty, pos, af, g⟩).run P w = .ok (.value (.int .i64 c)) w := by
  have e1 : (#[x] : Array Operand).map (ev e) = #[.slice a n c] := by simp [hx]
  rw [x_builtin, e1]
  unfold builtin
  simp [Builtin.cap_, run_underlying h.h, goInt]
theorem r_snil {t t' el n c : Nat} {x y : Operand} {a : Option Addr} [h : TSl P t el] (hx : ev e x = .slice a n c) (hy : ev e y = .slice none 0 0) : (execOp (ev e) ⟨d, .binOp .eql t x y t', ty, pos, af, g⟩).run P w = .ok (.value (.bool a.isNone)) w := by
  have h1 := Lib.run_eql_slice_nil (P := P) w t el a n c 0 0 h.h
  simp only [execOp, hx, hy, eqGuard, Sem.run_bind]
  simp [h1]
/-- Zeros, behind nothing. -/
theorem o_apz {t t' el sz by_ n : Nat} {x y : Operand} {z : List Value} {kn : IntKind} [ht : TSl P t el] [hi' : TInt P t' kn] [he : El P el sz by_ z] (mm : Mem w0 F0 w L) (hx : ev e x = .slice none 0 0) (hy : ev e y = .int .i64 n) (h0 : 0 < n) (hm : n ≤ maxLen) (hb : n * by_ ≤ 140737488355328)
    (hK : ∀ a c w', Mem w0 F0 w' (L ++ [own el sz a 0 c []]) → n ≤ c → K (.slice a n c) w') :
    OwpE P ⟨d, .call ⟨.builtin .append, #[x, y], #[t, t']⟩, ty, pos, af, g⟩ e w K := by
  obtain ⟨i, zv, hi, hsz, hby, hz, hzc, hzl, hs0⟩ := he.h
  subst hsz; subst hby
  have h63 : (n : Int) ≤ 9223372036854775807 := by simp only [maxLen] at hm; omega
  have hr := Lib.run_append_nil_zeros (P := P) w t t' ty el i zv .i64 kn ht.h hi'.h hi hz n h0 hs0 h63 (by omega)
  have e1 : (#[x, y] : Array Operand).map (ev e) = #[.slice none 0 0, .int .i64 n] := by simp [hx, hy]
  have hge := grownCap_ge w n 0 el
  have hcm := grownCap_le_maxLen w n 0 el hm
  have hzs : zv.cells.size = i.size := by rw [hzc]; simpa using hzl
  unfold OwpE
  rw [x_builtin, e1]
  unfold builtin
  simp only [Sem.run_bind, hr, Result.andThen_ok, Sem.run_pure]
  refine hK _ _ _ (mm.add ((Chg.drawn No w _).trans (Chg.alloc No w.drew _)) ⟨by simp, .inr ⟨w.heap.size, _, _, rfl, Nat.zero_le _, heap_alloc_new w.drew _, Nat.zero_le _, hcm, ?_, by simp⟩⟩ (fun b hb => ?_)) hge
  · simp only [Array.size_append, size_zeroCells, hzs, ← Nat.add_mul]
    congr 1
    omega
  · simp only [own, Option.map_some, Option.some.injEq] at hb
    omega
end
theorem Mem.cst1 {w0 w : World} {F0 : Nat → Prop} {T : TypeId} {sz n n' c : Nat} {a : Option Addr} {cs cs' : List Value} (h : Mem w0 F0 w [own T sz a n c cs]) (hn : n = n') (hc : cs = cs') : Mem w0 F0 w [own T sz a n' c cs'] := by subst hn; subst hc; exact h
/-! arrays of bytes compared -/
section
variable {P : Program} {e : Env} {w : World} {d : Option Nat} {ty : Nat} {pos : String} {af : Array Edge} {g : Option (Nat × Bool)}
theorem run_eqa {t m D : Nat} {cs ds : List Value} {la lb : List Lit} {p : Prop} [Decidable p] (hk : P.keyTypeAt m t = true) (hm : m ≤ 10000)
    (fa : (Value.agg cs.toArray).formed P t = true) (fb : (Value.agg ds.toArray).formed P t = true) (ka : P.keyLits D t cs = some la) (kb : P.keyLits D t ds = some lb) (hp : (la = lb) ↔ p) :
    (Op.equalIn 10000 t (.agg cs.toArray) (.agg ds.toArray)).run P w = .ok (decide p) w := by
  obtain ⟨r, hr, hiff⟩ := run_equalIn_deep (10000 - m) m t hk w D D _ _ la lb fa fb ka kb
  rw [show 10000 - m + m = 10000 from by omega] at hr
  have : r = decide p := by
    cases r with
    | true => exact (decide_eq_true (hp.1 (hiff.1 rfl))).symm
    | false => exact (decide_eq_false (fun hq => by have := hiff.2 (hp.2 hq); cases this)).symm
  rw [hr, this]
theorem r_eqa {t t' : Nat} {cs ds : List Value} {x y : Operand} {b : Bool} (hg : P.eqGuardType P.depth t = false) (he : ∀ w, (Op.equalIn 10000 t (.agg cs.toArray) (.agg ds.toArray)).run P w = .ok b w) (hx : ev e x = .agg cs.toArray) (hy : ev e y = .agg ds.toArray) :
    (execOp (ev e) ⟨d, .binOp .eql t x y t', ty, pos, af, g⟩).run P w = .ok (.value (.bool b)) w := by
  have h1 := run_eqGuard_agg (P := P) w .eql t x y cs.toArray ds.toArray hg
  have h2 := run_eql_struct (P := P) w t cs.toArray ds.toArray
  rw [he w] at h2
  simp only [execOp, hx, hy, Sem.run_bind, h1, Result.andThen_ok, h2, Sem.run_pure]
theorem r_nea {t t' : Nat} {cs ds : List Value} {x y : Operand} {b : Bool} (hg : P.eqGuardType P.depth t = false) (he : ∀ w, (Op.equalIn 10000 t (.agg cs.toArray) (.agg ds.toArray)).run P w = .ok b w) (hx : ev e x = .agg cs.toArray) (hy : ev e y = .agg ds.toArray) :
    (execOp (ev e) ⟨d, .binOp .neq t x y t', ty, pos, af, g⟩).run P w = .ok (.value (.bool (!b))) w := by
  have h1 := run_eqGuard_agg (P := P) w .neq t x y cs.toArray ds.toArray hg
  have h2 := run_neq_struct (P := P) w t cs.toArray ds.toArray
  rw [he w] at h2
  simp only [execOp, hx, hy, Sem.run_bind, h1, Result.andThen_ok, h2, Sem.run_pure]
end
end K
end Go.Proofs.Ytbcpabfemejlgaa
