/- The walk's own small logic, eleventh part: regions whose order is open, each operation that reads with a level of its own. (Printed by gen/mkp.py.) -/
import Derived.Test.YtgdbbaggkoillaaKo
namespace Go.Proofs.Ytgdbbaggkoillaa
namespace K
/-- What an operation asks of the world: nothing, B, or A. -/
def lev (A B : World → Prop) : Nat → World → Prop
  | 0, _ => True
  | 1, w => B w
  | _ + 2, w => A w
def lv (T : List Nat) (i : Nat) : Nat := match nth T i with | some n => n | none => 2
theorem lev_le {A B : World → Prop} (hAB : ∀ w, A w → B w) {n m : Nat} (h : n ≤ m) {w : World} (hm : lev A B m w) : lev A B n w := by
  match n, m, h with
  | 0, _, _ => trivial
  | 1, 1, _ => exact hm
  | 1, _ + 2, _ => exact hAB w hm
  | _ + 2, 0, h => omega
  | _ + 2, 1, h => omega
  | _ + 2, _ + 2, _ => exact hm
def aE2 (P : Program) (l0 : List Oper) (T : List Nat) (A B : World → Prop) (Q : Env → World → Prop) : Nat → Array Bool → Env → World → Prop
  | 0, listed, e, w => Region.ready .any l0.toArray listed = [] ∧ Q e w
  | f + 1, listed, e, w => (Region.ready .any l0.toArray listed = [] → Q e w) ∧
    ∀ i ∈ Region.ready .any l0.toArray listed, opE P l0 i (fun e' w' => lev A B (lv T i) w' ∧ aE2 P l0 T A B Q f (listed.setIfInBounds i true) e' w') e w
section
variable {P : Program} {l0 : List Oper} {Q : Env → World → Prop} {e : Env} {w : World}
theorem aE2.sound {N : Nat} {T : List Nat} {A B : World → Prop} (hd : l0.all (dstOk N) = true) : ∀ (f : Nat) (listed : Array Bool) (e : Env) (w : World) (a : Act), Agr N a e → aE2 P l0 T A B Q f listed e w →
    wpAny P .any l0.toArray (fun x a w => x = .normal ∧ ∃ e', Agr N a e' ∧ Q e' w) f listed a w
  | 0, listed, e, w, a, ha, h => ⟨h.1, rfl, e, ha, h.2⟩
  | f + 1, listed, e, w, a, ha, h => by
    refine ⟨fun h0 => ⟨rfl, e, ha, h.1 h0⟩, fun i hi => ?_⟩
    have h1 := h.2 i hi
    unfold opE at h1
    unfold wpOp
    rw [List.getElem?_toArray, ← nth_eq]
    cases ho : nth l0 i with
    | none => rw [ho] at h1; exact aE2.sound hd f _ e w a ha h1.2
    | some o =>
      rw [ho] at h1
      simp only at h1 ⊢
      have hdo : dstOk N o = true := List.all_eq_true.1 hd o (List.mem_of_getElem? (by rw [← nth_eq]; exact ho))
      rw [ha.wanted]
      cases hw : wantedE l0 o e with
      | true =>
        rw [hw] at h1
        rw [if_pos rfl]
        exact .inl (OwpE.wp ha h1 fun v w' hv => aE2.sound hd f _ _ w' _ (ha.put o v hdo) hv.2)
      | false =>
        rw [hw] at h1
        rw [if_neg (by simp)]
        exact aE2.sound hd f _ _ w _ (ha.put o undef hdo) h1.2
theorem aE2_first {T : List Nat} {A B S : World → Prop} {i : Nat} {oi : Oper} {v : Value} (hi : nth l0 i = some oi) (hsel : Region.noSelect l0.toArray = true) :
    ∀ (f : Nat) (listed : Array Bool) (e : Env) (w : World),
      (∀ j oj, nth l0 j = some oj → j ≠ i → listed.getD j true = false → (∀ x ∈ oj.after, Region.binds .any x = true → x.on ≠ i) → oi.apart l0.toArray oj = true) →
      (∀ j, M l0 i j = true → (nth l0 j).isSome = true → listed.getD j true = false) →
      (∀ j, (nth l0 j).isSome = true → j ≠ i → listed.getD j true = false → M l0 i j ≠ true → ∀ w, lev A B (lv T j) w → S w) →
      i ∈ Region.ready .any l0.toArray listed → PureE P l0 S oi e v → S w → (∀ w, S w → lev A B (lv T i) w → True) → (hVi : ∀ w, S w → lev A B (lv T i) w) → aE2 P l0 T A B Q f (listed.setIfInBounds i true) (up e oi.dst v) w → aE2 P l0 T A B Q (f + 1) listed e w := by
  have nosel : ∀ (j : Nat) (o : Oper) cs b, nth l0 j = some o → o.op ≠ .select cs b := fun j o cs b hj =>
    Region.noSelect_spec hsel j o cs b (by rw [List.getElem?_toArray, ← nth_eq]; exact hj)
  intro f
  induction f with
  | zero =>
    intro listed e w _ _ _ hr hp hS _ hVi H
    refine ⟨fun h => (by rw [h] at hr; cases hr), fun j hj => ?_⟩
    by_cases hji : j = i
    · subst hji
      unfold opE
      rw [hi]
      simp only
      rcases hp with ⟨hw, hr⟩ | ⟨hw, rfl⟩
      · rw [hw]; exact o_v (hr w hS) ⟨hVi w hS, H⟩
      · rw [hw]; exact ⟨hVi w hS, H⟩
    · have := ready_mono hj hji
      rw [H.1] at this
      cases this
  | succ f ih =>
    intro listed e w hfree hM hT hr hp hS hx hVi H
    refine ⟨fun h => (by rw [h] at hr; cases hr), fun j hj => ?_⟩
    by_cases hji : j = i
    · subst hji
      unfold opE
      rw [hi]
      simp only
      rcases hp with ⟨hw, hr⟩ | ⟨hw, rfl⟩
      · rw [hw]; exact o_v (hr w hS) ⟨hVi w hS, H⟩
      · rw [hw]; exact ⟨hVi w hS, H⟩
    · have h1 := H.2 j (ready_mono hj hji)
      obtain ⟨hjun, oj, hoj', hall⟩ := mem_ready.1 hj
      have hoj : nth l0 j = some oj := by rw [nth_eq, ← List.getElem?_toArray]; exact hoj'
      have hiun := (mem_ready.1 hr).1
      have unl : ∀ k, listed.getD k true = false → listed.getD k false = true → False := fun k h0 h1 => by
        rcases Nat.lt_or_ge k listed.size with h' | h'
        · simp [h'] at h0 h1; rw [h0] at h1; cases h1
        · simp [Array.getElem?_eq_none h'] at h1
      have hnot : ∀ x ∈ oj.after, Region.binds .any x = true → x.on ≠ i := fun x hx hb heq => unl i hiun (heq ▸ hall x hx hb)
      have hjM : M l0 i j ≠ true := fun hm => by
        obtain ⟨x, hx, hb, h2 | h2⟩ := M_spec hoj hm
        · exact hnot x hx hb h2
        · exact unl x.on (hM x.on h2 (M_some h2)) (hall x hx hb)
      have hTj := hT j (by rw [hoj]; rfl) hji hjun hjM
      have h2 := opE_swap hoj (hfree j oj hoj hji hjun hnot) (fun cs b => nosel i oi cs b hi) (fun cs b => nosel j oj cs b hoj) hp h1
      have keepUn : ∀ k, (listed.setIfInBounds j true).getD k true = false → k ≠ j ∧ listed.getD k true = false := fun k hk => by
        by_cases hjk : j = k
        · subst hjk
          rcases Nat.lt_or_ge j listed.size with h' | h'
          · simp [h'] at hk
          · simp [Array.getElem?_eq_none h'] at hjun
        · exact ⟨Ne.symm hjk, by rw [getD_set_ne true hjk] at hk; exact hk⟩
      refine opE_mono h2 fun e' w' h3 => ⟨h3.2.1, ih (listed.setIfInBounds j true) e' w' ?_ ?_ ?_ (ready_mono hr (Ne.symm hji)) h3.1 (hTj w' h3.2.1) hx hVi ?_⟩
      · exact fun k ok hk hki hun hno => hfree k ok hk hki (keepUn k hun).2 hno
      · intro k hk hks
        have hkj : k ≠ j := fun e => hjM (e ▸ hk)
        rw [getD_set_ne true (Ne.symm hkj)]
        exact hM k hk hks
      · exact fun k hks hki hun hm => hT k hks hki (keepUn k hun).2 hm
      · rw [Array.setIfInBounds_comm _ _ hji]
        exact h3.2.2
def wo2 (P : Program) (l0 : List Oper) (T : List Nat) (A B : World → Prop) (Q : Env → World → Prop) : List (Nat × Option Nat) → Env → World → Prop
  | [], e, w => Q e w
  | (i, some n) :: r, e, w => ∃ o v, nth l0 i = some o ∧ lev A B n w ∧ PureE P l0 (lev A B n) o e v ∧ wo2 P l0 T A B Q r (up e o.dst v) w
  | (i, none) :: r, e, w => ∃ o, nth l0 i = some o ∧ (bif wantedE l0 o e then OwpE P o e w (fun v w' => lev A B (lv T i) w' ∧ wo2 P l0 T A B Q r (up e o.dst v) w') else lev A B (lv T i) w ∧ wo2 P l0 T A B Q r (up e o.dst undef) w)
def tOk2 (l0 : List Oper) (T : List Nat) (listed : Array Bool) (i n : Nat) : Bool :=
  (List.range l0.length).all fun j => (!M l0 i j || !listed.getD j true) && (j == i || listed.getD j true || Nat.ble n (lv T j) || M l0 i j)
def orderB2 (ops : Array Oper) (T : List Nat) : List (Nat × Option Nat) → Array Bool → Bool
  | [], listed => (Region.ready .any ops listed).isEmpty
  | (i, some n) :: r, listed => Region.free .any ops listed i && Nat.ble (lv T i) n && tOk2 ops.toList T listed i n && (Region.ready .any ops listed).contains i && orderB2 ops T r (listed.setIfInBounds i true)
  | (i, none) :: r, listed => (Region.ready .any ops listed == [i]) && orderB2 ops T r (listed.setIfInBounds i true)
theorem wo2.sound {T : List Nat} {A B : World → Prop} (hAB : ∀ w, A w → B w) (hsel : Region.noSelect l0.toArray = true) : ∀ (r : List (Nat × Option Nat)) (listed : Array Bool) (e : Env) (w : World), orderB2 l0.toArray T r listed = true → wo2 P l0 T A B Q r e w → aE2 P l0 T A B Q r.length listed e w
  | [], listed, e, w, ho, h => ⟨by simpa [orderB2] using ho, h⟩
  | (i, some n) :: r, listed, e, w, ho, h => by
    obtain ⟨o, v, hi, hS, hp, hr⟩ := h
    simp only [orderB2, Bool.and_eq_true] at ho
    obtain ⟨⟨⟨⟨hf, hle⟩, ht⟩, hrd⟩, ho'⟩ := ho
    have hi' : l0.toArray[i]? = some o := by rw [List.getElem?_toArray, ← nth_eq]; exact hi
    have hfree : ∀ j oj, nth l0 j = some oj → j ≠ i → listed.getD j true = false → (∀ x ∈ oj.after, Region.binds .any x = true → x.on ≠ i) → o.apart l0.toArray oj = true :=
      fun j oj hj hne hun hno => Region.free_spec hi' hf j oj (by rw [List.getElem?_toArray, ← nth_eq]; exact hj) hne hun hno
    have hle := Nat.le_of_ble_eq_true hle
    refine aE2_first (S := lev A B n) hi hsel r.length listed e w hfree ?_ ?_ (by simpa using hrd) hp hS (fun _ _ _ => trivial) (fun w hw => lev_le hAB hle hw) (wo2.sound hAB hsel r _ _ w ho' hr)
    · intro j hm hjs
      simp only [tOk2, List.all_eq_true, List.mem_range] at ht
      have hlt : j < l0.length := by
        cases hn : nth l0 j with
        | none => rw [hn] at hjs; cases hjs
        | some o => exact nth_lt _ _ _ hn
      have h1 := ht j hlt
      simp only [hm, Bool.not_true, Bool.false_or, Bool.and_eq_true, Bool.not_eq_true'] at h1
      exact h1.1
    · intro j hjs hne hun hnm w hw
      simp only [tOk2, List.all_eq_true, List.mem_range] at ht
      have hlt : j < l0.length := by
        cases hn : nth l0 j with
        | none => rw [hn] at hjs; cases hjs
        | some o => exact nth_lt _ _ _ hn
      have h1 := ht j hlt
      have hnm : M l0 i j = false := by cases hq : M l0 i j with | false => rfl | true => exact absurd hq hnm
      simp only [hun, hnm, Bool.and_eq_true, Bool.or_eq_true, beq_iff_eq, Bool.false_eq_true, or_false, hne, false_or] at h1
      exact lev_le hAB (Nat.le_of_ble_eq_true h1.2) hw
  | (i, none) :: r, listed, e, w, ho, h => by
    obtain ⟨o, hi, hr⟩ := h
    simp only [orderB2, Bool.and_eq_true, beq_iff_eq] at ho
    refine ⟨fun h0 => (by rw [ho.1] at h0; cases h0), fun k hk => ?_⟩
    rw [ho.1] at hk
    simp only [List.mem_singleton] at hk
    subst hk
    unfold opE
    rw [hi]
    simp only
    cases hw : wantedE l0 o e with
    | true => rw [hw] at hr; exact OwpE.mono hr fun v w' ⟨hs, hv⟩ => ⟨hs, wo2.sound hAB hsel r _ _ w' ho.2 hv⟩
    | false => rw [hw] at hr; exact ⟨hr.1, wo2.sound hAB hsel r _ _ w ho.2 hr.2⟩
theorem c_draw2 {N id : Nat} {l : List Oper} {Rt : Env → World → Prop} {Q : Post} (hm : P.follows .mixedOrders = true) (r : List (Nat × Option Nat)) (T : List Nat) (A B : World → Prop) (hAB : ∀ w, A w → B w) (hsel : Region.noSelect l.toArray = true) (hd : l.all (dstOk N) = true) (hlen : Nat.beq r.length l.length = true)
    (ho : orderB2 l.toArray T r (Array.replicate l.toArray.size false) = true) (h : ∀ w', Chg No w w' → wo2 P l T A B (fun e w => Q .normal e w) r e w') : wpE P N Rt (.region id l.toArray true) Q e w := by
  intro a ha
  have h1 := aE2.sound (N := N) hd r.length _ e _ a ha (wo2.sound hAB hsel r _ e _ ho (h _ (Chg.drawn No w (w.drawn + 1))))
  have hl : r.length = l.toArray.size := by rw [Nat.eq_of_beq_eq_true hlen]; simp
  rw [hl] at h1
  refine wp_mono (wp_region_any hm h1) fun x a' w' hx => ?_
  obtain ⟨rfl, e', ha', hq⟩ := hx
  exact ⟨e', ha', hq⟩
theorem c_sdraw2 {N id : Nat} {l : List Oper} {y : Code} {Rt : Env → World → Prop} {Q : Post} (hm : P.follows .mixedOrders = true) (r : List (Nat × Option Nat)) (T : List Nat) (A B : World → Prop) (hAB : ∀ w, A w → B w) (hsel : Region.noSelect l.toArray = true) (hd : l.all (dstOk N) = true) (hlen : Nat.beq r.length l.length = true)
    (ho : orderB2 l.toArray T r (Array.replicate l.toArray.size false) = true) (h : ∀ w', Chg No w w' → wo2 P l T A B (fun e w => wpE P N Rt y Q e w) r e w') : wpE P N Rt (.seq (.region id l.toArray true) y) Q e w := c_seq (c_draw2 hm r T A B hAB hsel hd hlen ho h)

variable {T : List Nat} {A B : World → Prop} {r : List (Nat × Option Nat)} {i j t dd : Nat} {b c : Bool} {g : Option (Nat × Bool)} {op : Op} {ty : Nat} {pos : String} {af : Array Edge} {v : Value}
theorem qn (h : Q e w) : wo2 P l0 T A B Q [] e w := h
theorem q_g {n : Nat} {u q : Bool} (hi : nth l0 i = some ⟨some dd, op, ty, pos, af, some (j, u)⟩) (hw : wantedE l0 ⟨some dd, op, ty, pos, af, some (j, u)⟩ e = q) (hr : q = true → ∀ w, lev A B n w → (execOp (ev e) ⟨some dd, op, ty, pos, af, some (j, u)⟩).run P w = .ok (.value v) w) (hS : lev A B n w) (k : wo2 P l0 T A B Q r (upd e dd (sel q v)) w) : wo2 P l0 T A B Q ((i, some n) :: r) e w := by
  refine ⟨_, sel q v, hi, hS, ?_, k⟩
  cases q with
  | true => exact .inl ⟨hw, hr rfl⟩
  | false => exact .inr ⟨hw, rfl⟩
/-- A guarded effect whose value is known, and that keeps I. -/
theorem q_gw {u q : Bool} {I : World → Prop} (hi : nth l0 i = some ⟨some dd, op, ty, pos, af, some (j, u)⟩) (hw : wantedE l0 ⟨some dd, op, ty, pos, af, some (j, u)⟩ e = q) (h0 : I w) (hr : q = true → OwpE P ⟨some dd, op, ty, pos, af, some (j, u)⟩ e w (fun x w' => x = v ∧ I w')) (k : ∀ w', I w' → lev A B (lv T i) w' ∧ wo2 P l0 T A B Q r (upd e dd (sel q v)) w') : wo2 P l0 T A B Q ((i, none) :: r) e w := by
  refine ⟨_, hi, ?_⟩
  rw [hw]
  cases q with
  | true => exact OwpE.mono (hr rfl) fun x w' ⟨hx, hI⟩ => by subst hx; exact k w' hI
  | false => exact k w h0
theorem qo (hi : nth l0 i = some ⟨some dd, op, ty, pos, af, none⟩) (h : OwpE P ⟨some dd, op, ty, pos, af, none⟩ e w (fun v w' => lev A B (lv T i) w' ∧ wo2 P l0 T A B Q r (upd e dd v) w')) : wo2 P l0 T A B Q ((i, none) :: r) e w := ⟨_, hi, h⟩
theorem qs (hi : nth l0 i = some ⟨none, op, ty, pos, af, none⟩) (h : OwpE P ⟨none, op, ty, pos, af, none⟩ e w (fun _ w' => lev A B (lv T i) w' ∧ wo2 P l0 T A B Q r e w')) : wo2 P l0 T A B Q ((i, none) :: r) e w := ⟨_, hi, h⟩
theorem q01 (hi : nth l0 i = some ⟨some dd, op, ty, pos, af, none⟩) (hr : ∀ w, (execOp (ev e) ⟨some dd, op, ty, pos, af, none⟩).run P w = .ok (.value v) w) (k : wo2 P l0 T A B Q r (upd e dd v) w) : wo2 P l0 T A B Q ((i, some 0) :: r) e w := ⟨_, v, hi, trivial, .inl ⟨rfl, (fun w _ => hr w)⟩, k⟩
theorem q0T (hi : nth l0 i = some ⟨some dd, op, ty, pos, af, some (j, true)⟩) (ht : gd l0 j = some t) (hb : e t = .bool b) (hr : b = true → ∀ w, (execOp (ev e) ⟨some dd, op, ty, pos, af, some (j, true)⟩).run P w = .ok (.value v) w) (k : wo2 P l0 T A B Q r (upd e dd (sel b v)) w) : wo2 P l0 T A B Q ((i, some 0) :: r) e w := q_g hi (by rw [wanted_of rfl ht hb]; cases b <;> rfl) (fun h w _ => hr h w) trivial k
theorem q0Ts (hi : nth l0 i = some ⟨some dd, op, ty, pos, af, some (j, true)⟩) (ht : gd l0 j = some t) (hb : e t = sel c (.bool b)) (hr : (c && b) = true → ∀ w, (execOp (ev e) ⟨some dd, op, ty, pos, af, some (j, true)⟩).run P w = .ok (.value v) w) (k : wo2 P l0 T A B Q r (upd e dd (sel (c && b) v)) w) : wo2 P l0 T A B Q ((i, some 0) :: r) e w := q_g hi (by rw [wanted_of_sel rfl ht hb]; cases b <;> rfl) (fun h w _ => hr h w) trivial k
theorem q0F (hi : nth l0 i = some ⟨some dd, op, ty, pos, af, some (j, false)⟩) (ht : gd l0 j = some t) (hb : e t = .bool b) (hr : (!b) = true → ∀ w, (execOp (ev e) ⟨some dd, op, ty, pos, af, some (j, false)⟩).run P w = .ok (.value v) w) (k : wo2 P l0 T A B Q r (upd e dd (sel (!b) v)) w) : wo2 P l0 T A B Q ((i, some 0) :: r) e w := q_g hi (by rw [wanted_of rfl ht hb]; cases b <;> rfl) (fun h w _ => hr h w) trivial k
theorem q0Fs (hi : nth l0 i = some ⟨some dd, op, ty, pos, af, some (j, false)⟩) (ht : gd l0 j = some t) (hb : e t = sel c (.bool b)) (hr : (c && !b) = true → ∀ w, (execOp (ev e) ⟨some dd, op, ty, pos, af, some (j, false)⟩).run P w = .ok (.value v) w) (k : wo2 P l0 T A B Q r (upd e dd (sel (c && !b) v)) w) : wo2 P l0 T A B Q ((i, some 0) :: r) e w := q_g hi (by rw [wanted_of_sel rfl ht hb]; cases b <;> rfl) (fun h w _ => hr h w) trivial k
theorem qB1 (hi : nth l0 i = some ⟨some dd, op, ty, pos, af, none⟩) (hr : ∀ w, B w → (execOp (ev e) ⟨some dd, op, ty, pos, af, none⟩).run P w = .ok (.value v) w) (hS : B w) (k : wo2 P l0 T A B Q r (upd e dd v) w) : wo2 P l0 T A B Q ((i, some 1) :: r) e w := ⟨_, v, hi, hS, .inl ⟨rfl, hr⟩, k⟩
theorem qBT (hi : nth l0 i = some ⟨some dd, op, ty, pos, af, some (j, true)⟩) (ht : gd l0 j = some t) (hb : e t = .bool b) (hr : b = true → ∀ w, B w → (execOp (ev e) ⟨some dd, op, ty, pos, af, some (j, true)⟩).run P w = .ok (.value v) w) (hS : B w) (k : wo2 P l0 T A B Q r (upd e dd (sel b v)) w) : wo2 P l0 T A B Q ((i, some 1) :: r) e w := q_g hi (by rw [wanted_of rfl ht hb]; cases b <;> rfl) hr hS k
theorem qBTs (hi : nth l0 i = some ⟨some dd, op, ty, pos, af, some (j, true)⟩) (ht : gd l0 j = some t) (hb : e t = sel c (.bool b)) (hr : (c && b) = true → ∀ w, B w → (execOp (ev e) ⟨some dd, op, ty, pos, af, some (j, true)⟩).run P w = .ok (.value v) w) (hS : B w) (k : wo2 P l0 T A B Q r (upd e dd (sel (c && b) v)) w) : wo2 P l0 T A B Q ((i, some 1) :: r) e w := q_g hi (by rw [wanted_of_sel rfl ht hb]; cases b <;> rfl) hr hS k
theorem qBF (hi : nth l0 i = some ⟨some dd, op, ty, pos, af, some (j, false)⟩) (ht : gd l0 j = some t) (hb : e t = .bool b) (hr : (!b) = true → ∀ w, B w → (execOp (ev e) ⟨some dd, op, ty, pos, af, some (j, false)⟩).run P w = .ok (.value v) w) (hS : B w) (k : wo2 P l0 T A B Q r (upd e dd (sel (!b) v)) w) : wo2 P l0 T A B Q ((i, some 1) :: r) e w := q_g hi (by rw [wanted_of rfl ht hb]; cases b <;> rfl) hr hS k
theorem qBFs (hi : nth l0 i = some ⟨some dd, op, ty, pos, af, some (j, false)⟩) (ht : gd l0 j = some t) (hb : e t = sel c (.bool b)) (hr : (c && !b) = true → ∀ w, B w → (execOp (ev e) ⟨some dd, op, ty, pos, af, some (j, false)⟩).run P w = .ok (.value v) w) (hS : B w) (k : wo2 P l0 T A B Q r (upd e dd (sel (c && !b) v)) w) : wo2 P l0 T A B Q ((i, some 1) :: r) e w := q_g hi (by rw [wanted_of_sel rfl ht hb]; cases b <;> rfl) hr hS k
theorem qA1 (hi : nth l0 i = some ⟨some dd, op, ty, pos, af, none⟩) (hr : ∀ w, A w → (execOp (ev e) ⟨some dd, op, ty, pos, af, none⟩).run P w = .ok (.value v) w) (hS : A w) (k : wo2 P l0 T A B Q r (upd e dd v) w) : wo2 P l0 T A B Q ((i, some 2) :: r) e w := ⟨_, v, hi, hS, .inl ⟨rfl, hr⟩, k⟩
theorem qAT (hi : nth l0 i = some ⟨some dd, op, ty, pos, af, some (j, true)⟩) (ht : gd l0 j = some t) (hb : e t = .bool b) (hr : b = true → ∀ w, A w → (execOp (ev e) ⟨some dd, op, ty, pos, af, some (j, true)⟩).run P w = .ok (.value v) w) (hS : A w) (k : wo2 P l0 T A B Q r (upd e dd (sel b v)) w) : wo2 P l0 T A B Q ((i, some 2) :: r) e w := q_g hi (by rw [wanted_of rfl ht hb]; cases b <;> rfl) hr hS k
theorem qATs (hi : nth l0 i = some ⟨some dd, op, ty, pos, af, some (j, true)⟩) (ht : gd l0 j = some t) (hb : e t = sel c (.bool b)) (hr : (c && b) = true → ∀ w, A w → (execOp (ev e) ⟨some dd, op, ty, pos, af, some (j, true)⟩).run P w = .ok (.value v) w) (hS : A w) (k : wo2 P l0 T A B Q r (upd e dd (sel (c && b) v)) w) : wo2 P l0 T A B Q ((i, some 2) :: r) e w := q_g hi (by rw [wanted_of_sel rfl ht hb]; cases b <;> rfl) hr hS k
theorem qAF (hi : nth l0 i = some ⟨some dd, op, ty, pos, af, some (j, false)⟩) (ht : gd l0 j = some t) (hb : e t = .bool b) (hr : (!b) = true → ∀ w, A w → (execOp (ev e) ⟨some dd, op, ty, pos, af, some (j, false)⟩).run P w = .ok (.value v) w) (hS : A w) (k : wo2 P l0 T A B Q r (upd e dd (sel (!b) v)) w) : wo2 P l0 T A B Q ((i, some 2) :: r) e w := q_g hi (by rw [wanted_of rfl ht hb]; cases b <;> rfl) hr hS k
theorem qAFs (hi : nth l0 i = some ⟨some dd, op, ty, pos, af, some (j, false)⟩) (ht : gd l0 j = some t) (hb : e t = sel c (.bool b)) (hr : (c && !b) = true → ∀ w, A w → (execOp (ev e) ⟨some dd, op, ty, pos, af, some (j, false)⟩).run P w = .ok (.value v) w) (hS : A w) (k : wo2 P l0 T A B Q r (upd e dd (sel (c && !b) v)) w) : wo2 P l0 T A B Q ((i, some 2) :: r) e w := q_g hi (by rw [wanted_of_sel rfl ht hb]; cases b <;> rfl) hr hS k
theorem qTw {I : World → Prop} (hi : nth l0 i = some ⟨some dd, op, ty, pos, af, some (j, true)⟩) (ht : gd l0 j = some t) (hb : e t = .bool b) (h0 : I w) (hr : b = true → OwpE P ⟨some dd, op, ty, pos, af, some (j, true)⟩ e w (fun x w' => x = v ∧ I w')) (k : ∀ w', I w' → lev A B (lv T i) w' ∧ wo2 P l0 T A B Q r (upd e dd (sel b v)) w') : wo2 P l0 T A B Q ((i, none) :: r) e w := q_gw hi (by rw [wanted_of rfl ht hb]; cases b <;> rfl) h0 hr k
theorem qTsw {I : World → Prop} (hi : nth l0 i = some ⟨some dd, op, ty, pos, af, some (j, true)⟩) (ht : gd l0 j = some t) (hb : e t = sel c (.bool b)) (h0 : I w) (hr : (c && b) = true → OwpE P ⟨some dd, op, ty, pos, af, some (j, true)⟩ e w (fun x w' => x = v ∧ I w')) (k : ∀ w', I w' → lev A B (lv T i) w' ∧ wo2 P l0 T A B Q r (upd e dd (sel (c && b) v)) w') : wo2 P l0 T A B Q ((i, none) :: r) e w := q_gw hi (by rw [wanted_of_sel rfl ht hb]; cases b <;> rfl) h0 hr k
theorem qFw {I : World → Prop} (hi : nth l0 i = some ⟨some dd, op, ty, pos, af, some (j, false)⟩) (ht : gd l0 j = some t) (hb : e t = .bool b) (h0 : I w) (hr : (!b) = true → OwpE P ⟨some dd, op, ty, pos, af, some (j, false)⟩ e w (fun x w' => x = v ∧ I w')) (k : ∀ w', I w' → lev A B (lv T i) w' ∧ wo2 P l0 T A B Q r (upd e dd (sel (!b) v)) w') : wo2 P l0 T A B Q ((i, none) :: r) e w := q_gw hi (by rw [wanted_of rfl ht hb]; cases b <;> rfl) h0 hr k
theorem qFsw {I : World → Prop} (hi : nth l0 i = some ⟨some dd, op, ty, pos, af, some (j, false)⟩) (ht : gd l0 j = some t) (hb : e t = sel c (.bool b)) (h0 : I w) (hr : (c && !b) = true → OwpE P ⟨some dd, op, ty, pos, af, some (j, false)⟩ e w (fun x w' => x = v ∧ I w')) (k : ∀ w', I w' → lev A B (lv T i) w' ∧ wo2 P l0 T A B Q r (upd e dd (sel (c && !b) v)) w') : wo2 P l0 T A B Q ((i, none) :: r) e w := q_gw hi (by rw [wanted_of_sel rfl ht hb]; cases b <;> rfl) h0 hr k
end
/-! a guard that is known -/
section
variable {P : Program} {l0 : List Oper} {Q : Env → World → Prop} {rest : List Oper} {e : Env} {w : World} {dd j t : Nat} {op : Op} {ty : Nat} {pos : String} {af : Array Edge} {v : Value} {u : Bool}
theorem s1k (ht : gd l0 j = some t) (hb : e t = .bool u) (hr : (execOp (ev e) ⟨some dd, op, ty, pos, af, some (j, u)⟩).run P w = .ok (.value v) w) (k : wlE P l0 Q rest (upd e dd v) w) : wlE P l0 Q (⟨some dd, op, ty, pos, af, some (j, u)⟩ :: rest) e w := by
  unfold wlE
  rw [wanted_of rfl ht hb, beq_self_eq_true]
  exact o_v hr k
theorem sok (ht : gd l0 j = some t) (hb : e t = .bool u) (h : OwpE P ⟨some dd, op, ty, pos, af, some (j, u)⟩ e w (fun v w' => wlE P l0 Q rest (upd e dd v) w')) : wlE P l0 Q (⟨some dd, op, ty, pos, af, some (j, u)⟩ :: rest) e w := by
  unfold wlE
  rw [wanted_of rfl ht hb, beq_self_eq_true]
  exact h
theorem ssk (ht : gd l0 j = some t) (hb : e t = .bool u) (h : OwpE P ⟨none, op, ty, pos, af, some (j, u)⟩ e w (fun _ w' => wlE P l0 Q rest e w')) : wlE P l0 Q (⟨none, op, ty, pos, af, some (j, u)⟩ :: rest) e w := by
  unfold wlE
  rw [wanted_of rfl ht hb, beq_self_eq_true]
  exact h
theorem s1n (ht : gd l0 j = some t) (hb : e t = .bool (!u)) (k : wlE P l0 Q rest (upd e dd undef) w) : wlE P l0 Q (⟨some dd, op, ty, pos, af, some (j, u)⟩ :: rest) e w := by
  unfold wlE
  rw [wanted_of rfl ht hb]
  cases u <;> exact k
end
end K
end Go.Proofs.Ytgdbbaggkoillaa
