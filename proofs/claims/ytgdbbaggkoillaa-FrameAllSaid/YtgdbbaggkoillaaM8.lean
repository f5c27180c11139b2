/- The walk's own small logic, eleventh part: regions whose order is open, each operation that reads with a level of its own. (Printed by gen/mkp.py.) -/
import Derived.Test.YtgdbbaggkoillaaM7
import Derived.Test.YtgdbbaggkoillaaM5
import Derived.Test.YtgdbbaggkoillaaM6
import Derived.Test.YtgdbbaggkoillaaM2
import Derived.OpenShut
namespace Go.Proofs.Ytgdbbaggkoillaa
namespace K
/-- What an operation asks of the world: nothing, B, or A. -/
def lev (A B : World → Prop) : Nat → World → Prop
  | 0, _ => True
  | 1, w => B w
  | _ + 2, w => A w
def lv (T : List Nat) (i : Nat) : Nat := match nth T i with | some n => n | none => 2
theorem lev_le {A B : World → Prop} (hAB : ∀ w, A w → B w) {n m : Nat} (h : n ≤ m) {w : World} (hm : lev A B m w) : lev A B n w := by
  match n, m, h with
  | 0, _, _ => trivial
  | 1, 1, _ => exact hm
  | 1, _ + 2, _ => exact hAB w hm
  | _ + 2, 0, h => omega
  | _ + 2, 1, h => omega
  | _ + 2, _ + 2, _ => exact hm
def aE2 (P : Program) (l0 : List Oper) (T : List Nat) (A B : World → Prop) (Q : Env → World → Prop) : Nat → Array Bool → Env → World → Prop
  | 0, listed, e, w => Region.ready .any l0.toArray listed = [] ∧ Q e w
  | f + 1, listed, e, w => (Region.ready .any l0.toArray listed = [] → Q e w) ∧
    ∀ i ∈ Region.ready .any l0.toArray listed, opE P l0 i (fun e' w' => lev A B (lv T i) w' ∧ aE2 P l0 T A B Q f (listed.setIfInBounds i true) e' w') e w
section
variable {P : Program} {l0 : List Oper} {Q : Env → World → Prop} {e : Env} {w : World}
theorem aE2.sound {N : Nat} {T : List Nat} {A B : World → Prop} (hd : l0.all (dstOk N) = true) : ∀ (f : Nat) (listed : Array Bool) (e : Env) (w : World) (a : Act), Agr N a e → aE2 P l0 T A B Q f listed e w →
    wpAny P .any l0.toArray (fun x a w => x = .normal ∧ ∃ e', Agr N a e' ∧ Q e' w) f listed a w
  | 0, listed, e, w, a, ha, h => ⟨h.1, rfl, e, ha, h.2⟩
  | f + 1, listed, e, w, a, ha, h => by
    refine ⟨fun h0 => ⟨rfl, e, ha, h.1 h0⟩, fun i hi => ?_⟩
    have h1 := h.2 i hi
    unfold opE at h1
    unfold wpOp
    rw [List.getElem?_toArray, ← nth_eq]
    cases ho : nth l0 i with
    | none => rw [ho] at h1; exact aE2.sound hd f _ e w a ha h1.2
    | some o =>
      rw [ho] at h1
      simp only at h1 ⊢
      have hdo : dstOk N o = true := List.all_eq_true.1 hd o (List.mem_of_getElem? (by rw [← nth_eq]; exact ho))
      rw [ha.wanted]
      cases hw : wantedE l0 o e with
      | true =>
        rw [hw] at h1
        rw [if_pos rfl]
        exact .inl (OwpE.wp ha h1 fun v w' hv => aE2.sound hd f _ _ w' _ (ha.put o v hdo) hv.2)
      | false =>
        rw [hw] at h1
        rw [if_neg (by simp)]
        exact aE2.sound hd f _ _ w _ (ha.put o undef hdo) h1.2
theorem aE2_first {T : List Nat} {A B S : World → Prop} {i : Nat} {oi : Oper} {v : Value} (hi : nth l0 i = some oi) (hsel : Region.noSelect l0.toArray = true) :
    ∀ (f : Nat) (listed : Array Bool) (e : Env) (w : World),
      (∀ j oj, nth l0 j = some oj → j ≠ i → listed.getD j true = false → (∀ x ∈ oj.after, Region.binds .any x = true → x.on ≠ i) → oi.apart l0.toArray oj = true) →
      (∀ j, M l0 i j = true → (nth l0 j).isSome = true → listed.getD j true = false) →
      (∀ j, (nth l0 j).isSome = true → j ≠ i → listed.getD j true = false → M l0 i j ≠ true → ∀ w, lev A B (lv T j) w → S w) →
      i ∈ Region.ready .any l0.toArray listed → PureE P l0 S oi e v → S w → (∀ w, S w → lev A B (lv T i) w → True) → (hVi : ∀ w, S w → lev A B (lv T i) w) → aE2 P l0 T A B Q f (listed.setIfInBounds i true) (up e oi.dst v) w → aE2 P l0 T A B Q (f + 1) listed e w := by
  have nosel : ∀ (j : Nat) (o : Oper) cs b, nth l0 j = some o → o.op ≠ .select cs b := fun j o cs b hj =>
    Region.noSelect_spec hsel j o cs b (by rw [List.getElem?_toArray, ← nth_eq]; exact hj)
  intro f
  induction f with
  | zero =>
    intro listed e w _ _ _ hr hp hS _ hVi H
    refine ⟨fun h => (by rw [h] at hr; cases hr), fun j hj => ?_⟩
    by_cases hji : j = i
    · subst hji
      unfold opE
      rw [hi]
      simp only
      rcases hp with ⟨hw, hr⟩ | ⟨hw, rfl⟩
      · rw [hw]; exact o_v (hr w hS) ⟨hVi w hS, H⟩
      · rw [hw]; exact ⟨hVi w hS, H⟩
    · have := ready_mono hj hji
      rw [H.1] at this
      cases this
  | succ f ih =>
    intro listed e w hfree hM hT hr hp hS hx hVi H
    refine ⟨fun h => (by rw [h] at hr; cases hr), fun j hj => ?_⟩
    by_cases hji : j = i
    · subst hji
      unfold opE
      rw [hi]
      simp only
      rcases hp with ⟨hw, hr⟩ | ⟨hw, rfl⟩
      · rw [hw]; exact o_v (hr w hS) ⟨hVi w hS, H⟩
      · rw [hw]; exact ⟨hVi w hS, H⟩
    · have h1 := H.2 j (ready_mono hj hji)
      obtain ⟨hjun, oj, hoj', hall⟩ := mem_ready.1 hj
      have hoj : nth l0 j = some oj := by rw [nth_eq, ← List.getElem?_toArray]; exact hoj'
      have hiun := (mem_ready.1 hr).1
      have unl : ∀ k, listed.getD k true = false → listed.getD k false = true → False := fun k h0 h1 => by
        rcases Nat.lt_or_ge k listed.size with h' | h'
        · simp [h'] at h0 h1; rw [h0] at h1; cases h1
        · simp [Array.getElem?_eq_none h'] at h1
      have hnot : ∀ x ∈ oj.after, Region.binds .any x = true → x.on ≠ i := fun x hx hb heq => unl i hiun (heq ▸ hall x hx hb)
      have hjM : M l0 i j ≠ true := fun hm => by
        obtain ⟨x, hx, hb, h2 | h2⟩ := M_spec hoj hm
        · exact hnot x hx hb h2
        · exact unl x.on (hM x.on h2 (M_some h2)) (hall x hx hb)
      have hTj := hT j (by rw [hoj]; rfl) hji hjun hjM
      have h2 := opE_swap hoj (hfree j oj hoj hji hjun hnot) (fun cs b => nosel i oi cs b hi) (fun cs b => nosel j oj cs b hoj) hp h1
      have keepUn : ∀ k, (listed.setIfInBounds j true).getD k true = false → k ≠ j ∧ listed.getD k true = false := fun k hk => by
        by_cases hjk : j = k
        · subst hjk
          rcases Nat.lt_or_ge j listed.size with h' | h'
          · simp [h'] at hk
          · simp [Array.getElem?_eq_none h'] at hjun
        · exact ⟨Ne.symm hjk, by rw [getD_set_ne true hjk] at hk; exact hk⟩
      refine opE_mono h2 fun e' w' h3 => ⟨h3.2.1, ih (listed.setIfInBounds j true) e' w' ?_ ?_ ?_ (ready_mono hr (Ne.symm hji)) h3.1 (hTj w' h3.2.1) hx hVi ?_⟩
      · exact fun k ok hk hki hun hno => hfree k ok hk hki (keepUn k hun).2 hno
      · intro k hk hks
        have hkj : k ≠ j := fun e => hjM (e ▸ hk)
        rw [getD_set_ne true (Ne.symm hkj)]
        exact hM k hk hks
      · exact fun k hks hki hun hm => hT k hks hki (keepUn k hun).2 hm
      · rw [Array.setIfInBounds_comm _ _ hji]
        exact h3.2.2
def wo2 (P : Program) (l0 : List Oper) (T : List Nat) (A B : World → Prop) (Q : Env → World → Prop) : List (Nat × Option Nat) → Env → World → Prop
  | [], e, w => Q e w
  | (i, some n) :: r, e, w => ∃ o v, nth l0 i = some o ∧ lev A B n w ∧ PureE P l0 (lev A B n) o e v ∧ wo2 P l0 T A B Q r (up e o.dst v) w
  | (i, none) :: r, e, w => ∃ o, nth l0 i = some o ∧ (bif wantedE l0 o e then OwpE P o e w (fun v w' => lev A B (lv T i) w' ∧ wo2 P l0 T A B Q r (up e o.dst v) w') else lev A B (lv T i) w ∧ wo2 P l0 T A B Q r (up e o.dst undef) w)
def tOk2 (l0 : List Oper) (T : List Nat) (listed : Array Bool) (i n : Nat) : Bool :=
  (List.range l0.length).all fun j => (!M l0 i j || !listed.getD j true) && (j == i || listed.getD j true || Nat.ble n (lv T j) || M l0 i j)
def orderB2 (ops : Array Oper) (T : List Nat) : List (Nat × Option Nat) → Array Bool → Bool
  | [], listed => (Region.ready .any ops listed).isEmpty
  | (i, some n) :: r, listed => Region.free .any ops listed i && Nat.ble (lv T i) n && tOk2 ops.toList T listed i n && (Region.ready .any ops listed).contains i && orderB2 ops T r (listed.setIfInBounds i true)
  | (i, none) :: r, listed => (Region.ready .any ops listed == [i]) && orderB2 ops T r (listed.setIfInBounds i true)
theorem wo2.sound {T : List Nat} {A B : World → Prop} (hAB : ∀ w, A w → B w) (hsel : Region.noSelect l0.toArray = true) : ∀ (r : List (Nat × Option Nat)) (listed : Array Bool) (e : Env) (w : World), orderB2 l0.toArray T r listed = true → wo2 P l0 T A B Q r e w → aE2 P l0 T A B Q r.length listed e w
  | [], listed, e, w, ho, h => ⟨by simpa [orderB2] using ho, h⟩
  | (i, some n) :: r, listed, e, w, ho, h => by
    obtain ⟨o, v, hi, hS, hp, hr⟩ := h
    simp only [orderB2, Bool.and_eq_true] at ho
    obtain ⟨⟨⟨⟨hf, hle⟩, ht⟩, hrd⟩, ho'⟩ := ho
    have hi' : l0.toArray[i]? = some o := by rw [List.getElem?_toArray, ← nth_eq]; exact hi
    have hfree : ∀ j oj, nth l0 j = some oj → j ≠ i → listed.getD j true = false → (∀ x ∈ oj.after, Region.binds .any x = true → x.on ≠ i) → o.apart l0.toArray oj = true :=
      fun j oj hj hne hun hno => Region.free_spec hi' hf j oj (by rw [List.getElem?_toArray, ← nth_eq]; exact hj) hne hun hno
    have hle := Nat.le_of_ble_eq_true hle
    refine aE2_first (S := lev A B n) hi hsel r.length listed e w hfree ?_ ?_ (by simpa using hrd) hp hS (fun _ _ _ => trivial) (fun w hw => lev_le hAB hle hw) (wo2.sound hAB hsel r _ _ w ho' hr)
    · intro j hm hjs
      simp only [tOk2, List.all_eq_true, List.mem_range] at ht
      have hlt : j < l0.length := by
        cases hn : nth l0 j with
        | none => rw [hn] at hjs; cases hjs
        | some o => exact nth_lt _ _ _ hn
      have h1 := ht j hlt
      simp only [hm, Bool.not_true, Bool.false_or, Bool.and_eq_true, Bool.not_eq_true'] at h1
      exact h1.1
    · intro j hjs hne hun hnm w hw
      simp only [tOk2, List.all_eq_true, List.mem_range] at ht
      have hlt : j < l0.length := by
        cases hn : nth l0 j with
        | none => rw [hn] at hjs; cases hjs
        | some o => exact nth_lt _ _ _ hn
      have h1 := ht j hlt
      have hnm : M l0 i j = false := by cases hq : M l0 i j with | false => rfl | true => exact absurd hq hnm
      simp only [hun, hnm, Bool.and_eq_true, Bool.or_eq_true, beq_iff_eq, Bool.false_eq_true, or_false, hne, false_or] at h1
      exact lev_le hAB (Nat.le_of_ble_eq_true h1.2) hw
  | (i, none) :: r, listed, e, w, ho, h => by
    obtain ⟨o, hi, hr⟩ := h
    simp only [orderB2, Bool.and_eq_true, beq_iff_eq] at ho
    refine ⟨fun h0 => (by rw [ho.1] at h0; cases h0), fun k hk => ?_⟩
    rw [ho.1] at hk
    simp only [List.mem_singleton] at hk
    subst hk
    unfold opE
    rw [hi]
    simp only
    cases hw : wantedE l0 o e with
    | true => rw [hw] at hr; exact OwpE.mono hr fun v w' ⟨hs, hv⟩ => ⟨hs, wo2.sound hAB hsel r _ _ w' ho.2 hv⟩
    | false => rw [hw] at hr; exact ⟨hr.1, wo2.sound hAB hsel r _ _ w ho.2 hr.2⟩
theorem c_draw2 {N id : Nat} {l : List Oper} {Rt : Env → World → Prop} {Q : Post} (hm : P.follows .mixedOrders = true) (r : List (Nat × Option Nat)) (T : List Nat) (A B : World → Prop) (hAB : ∀ w, A w → B w) (hsel : Region.noSelect l.toArray = true) (hd : l.all (dstOk N) = true) (hlen : Nat.beq r.length l.length = true)
    (ho : orderB2 l.toArray T r (Array.replicate l.toArray.size false) = true) (h : ∀ w', Chg No w w' → wo2 P l T A B (fun e w => Q .normal e w) r e w') : wpE P N Rt (.region id l.toArray true) Q e w := by
  intro a ha
  have h1 := aE2.sound (N := N) hd r.length _ e _ a ha (wo2.sound hAB hsel r _ e _ ho (h _ (Chg.drawn No w (w.drawn + 1))))
  have hl : r.length = l.toArray.size := by rw [Nat.eq_of_beq_eq_true hlen]; simp
  rw [hl] at h1
  refine wp_mono (wp_region_any hm h1) fun x a' w' hx => ?_
  obtain ⟨rfl, e', ha', hq⟩ := hx
  exact ⟨e', ha', hq⟩
theorem c_sdraw2 {N id : Nat} {l : List Oper} {y : Code} {Rt : Env → World → Prop} {Q : Post} (hm : P.follows .mixedOrders = true) (r : List (Nat × Option Nat)) (T : List Nat) (A B : World → Prop) (hAB : ∀ w, A w → B w) (hsel : Region.noSelect l.toArray = true) (hd : l.all (dstOk N) = true) (hlen : Nat.beq r.length l.length = true)
    (ho : orderB2 l.toArray T r (Array.replicate l.toArray.size false) = true) (h : ∀ w', Chg No w w' → wo2 P l T A B (fun e w => wpE P N Rt y Q e w) r e w') : wpE P N Rt (.seq (.region id l.toArray true) y) Q e w := c_seq (c_draw2 hm r T A B hAB hsel hd hlen ho h)

variable {T : List Nat} {A B : World → Prop} {r : List (Nat × Option Nat)} {i j t dd : Nat} {b c : Bool} {g : Option (Nat × Bool)} {op : Op} {ty : Nat} {pos : String} {af : Array Edge} {v : Value}
theorem qn (h : Q e w) : wo2 P l0 T A B Q [] e w := h
theorem q_g {n : Nat} {u q : Bool} (hi : nth l0 i = some ⟨some dd, op, ty, pos, af, some (j, u)⟩) (hw : wantedE l0 ⟨some dd, op, ty, pos, af, some (j, u)⟩ e = q) (hr : q = true → ∀ w, lev A B n w → (execOp (ev e) ⟨some dd, op, ty, pos, af, some (j, u)⟩).run P w = .ok (.value v) w) (hS : lev A B n w) (k : wo2 P l0 T A B Q r (upd e dd (sel q v)) w) : wo2 P l0 T A B Q ((i, some n) :: r) e w := by
  refine ⟨_, sel q v, hi, hS, ?_, k⟩
  cases q with
  | true => exact .inl ⟨hw, hr rfl⟩
  | false => exact .inr ⟨hw, rfl⟩
/-- A guarded effect whose value is known, and that keeps I. -/
theorem q_gw {u q : Bool} {I : World → Prop} (hi : nth l0 i = some ⟨some dd, op, ty, pos, af, some (j, u)⟩) (hw : wantedE l0 ⟨some dd, op, ty, pos, af, some (j, u)⟩ e = q) (h0 : I w) (hr : q = true → OwpE P ⟨some dd, op, ty, pos, af, some (j, u)⟩ e w (fun x w' => x = v ∧ I w')) (k : ∀ w', I w' → lev A B (lv T i) w' ∧ wo2 P l0 T A B Q r (upd e dd (sel q v)) w') : wo2 P l0 T A B Q ((i, none) :: r) e w := by
  refine ⟨_, hi, ?_⟩
  rw [hw]
  cases q with
  | true => exact OwpE.mono (hr rfl) fun x w' ⟨hx, hI⟩ => by subst hx; exact k w' hI
  | false => exact k w h0
theorem qo (hi : nth l0 i = some ⟨some dd, op, ty, pos, af, none⟩) (h : OwpE P ⟨some dd, op, ty, pos, af, none⟩ e w (fun v w' => lev A B (lv T i) w' ∧ wo2 P l0 T A B Q r (upd e dd v) w')) : wo2 P l0 T A B Q ((i, none) :: r) e w := ⟨_, hi, h⟩
theorem qs (hi : nth l0 i = some ⟨none, op, ty, pos, af, none⟩) (h : OwpE P ⟨none, op, ty, pos, af, none⟩ e w (fun _ w' => lev A B (lv T i) w' ∧ wo2 P l0 T A B Q r e w')) : wo2 P l0 T A B Q ((i, none) :: r) e w := ⟨_, hi, h⟩
theorem q01 (hi : nth l0 i = some ⟨some dd, op, ty, pos, af, none⟩) (hr : ∀ w, (execOp (ev e) ⟨some dd, op, ty, pos, af, none⟩).run P w = .ok (.value v) w) (k : wo2 P l0 T A B Q r (upd e dd v) w) : wo2 P l0 T A B Q ((i, some 0) :: r) e w := ⟨_, v, hi, trivial, .inl ⟨rfl, (fun w _ => hr w)⟩, k⟩
theorem q0T (hi : nth l0 i = some ⟨some dd, op, ty, pos, af, some (j, true)⟩) (ht : gd l0 j = some t) (hb : e t = .bool b) (hr : b = true → ∀ w, (execOp (ev e) ⟨some dd, op, ty, pos, af, some (j, true)⟩).run P w = .ok (.value v) w) (k : wo2 P l0 T A B Q r (upd e dd (sel b v)) w) : wo2 P l0 T A B Q ((i, some 0) :: r) e w := q_g hi (by rw [wanted_of rfl ht hb]; cases b <;> rfl) (fun h w _ => hr h w) trivial k
theorem q0Ts (hi : nth l0 i = some ⟨some dd, op, ty, pos, af, some (j, true)⟩) (ht : gd l0 j = some t) (hb : e t = sel c (.bool b)) (hr : (c && b) = true → ∀ w, (execOp (ev e) ⟨some dd, op, ty, pos, af, some (j, true)⟩).run P w = .ok (.value v) w) (k : wo2 P l0 T A B Q r (upd e dd (sel (c && b) v)) w) : wo2 P l0 T A B Q ((i, some 0) :: r) e w := q_g hi (by rw [wanted_of_sel rfl ht hb]; cases b <;> rfl) (fun h w _ => hr h w) trivial k
theorem q0F (hi : nth l0 i = some ⟨some dd, op, ty, pos, af, some (j, false)⟩) (ht : gd l0 j = some t) (hb : e t = .bool b) (hr : (!b) = true → ∀ w, (execOp (ev e) ⟨some dd, op, ty, pos, af, some (j, false)⟩).run P w = .ok (.value v) w) (k : wo2 P l0 T A B Q r (upd e dd (sel (!b) v)) w) : wo2 P l0 T A B Q ((i, some 0) :: r) e w := q_g hi (by rw [wanted_of rfl ht hb]; cases b <;> rfl) (fun h w _ => hr h w) trivial k
theorem q0Fs (hi : nth l0 i = some ⟨some dd, op, ty, pos, af, some (j, false)⟩) (ht : gd l0 j = some t) (hb : e t = sel c (.bool b)) (hr : (c && !b) = true → ∀ w, (execOp (ev e) ⟨some dd, op, ty, pos, af, some (j, false)⟩).run P w = .ok (.value v) w) (k : wo2 P l0 T A B Q r (upd e dd (sel (c && !b) v)) w) : wo2 P l0 T A B Q ((i, some 0) :: r) e w := q_g hi (by rw [wanted_of_sel rfl ht hb]; cases b <;> rfl) (fun h w _ => hr h w) trivial k
theorem qB1 (hi : nth l0 i = some ⟨some dd, op, ty, pos, af, none⟩) (hr : ∀ w, B w → (execOp (ev e) ⟨some dd, op, ty, pos, af, none⟩).run P w = .ok (.value v) w) (hS : B w) (k : wo2 P l0 T A B Q r (upd e dd v) w) : wo2 P l0 T A B Q ((i, some 1) :: r) e w := ⟨_, v, hi, hS, .inl ⟨rfl, hr⟩, k⟩
theorem qBT (hi : nth l0 i = some ⟨some dd, op, ty, pos, af, some (j, true)⟩) (ht : gd l0 j = some t) (hb : e t = .bool b) (hr : b = true → ∀ w, B w → (execOp (ev e) ⟨some dd, op, ty, pos, af, some (j, true)⟩).run P w = .ok (.value v) w) (hS : B w) (k : wo2 P l0 T A B Q r (upd e dd (sel b v)) w) : wo2 P l0 T A B Q ((i, some 1) :: r) e w := q_g hi (by rw [wanted_of rfl ht hb]; cases b <;> rfl) hr hS k
theorem qBTs (hi : nth l0 i = some ⟨some dd, op, ty, pos, af, some (j, true)⟩) (ht : gd l0 j = some t) (hb : e t = sel c (.bool b)) (hr : (c && b) = true → ∀ w, B w → (execOp (ev e) ⟨some dd, op, ty, pos, af, some (j, true)⟩).run P w = .ok (.value v) w) (hS : B w) (k : wo2 P l0 T A B Q r (upd e dd (sel (c && b) v)) w) : wo2 P l0 T A B Q ((i, some 1) :: r) e w := q_g hi (by rw [wanted_of_sel rfl ht hb]; cases b <;> rfl) hr hS k
theorem qBF (hi : nth l0 i = some ⟨some dd, op, ty, pos, af, some (j, false)⟩) (ht : gd l0 j = some t) (hb : e t = .bool b) (hr : (!b) = true → ∀ w, B w → (execOp (ev e) ⟨some dd, op, ty, pos, af, some (j, false)⟩).run P w = .ok (.value v) w) (hS : B w) (k : wo2 P l0 T A B Q r (upd e dd (sel (!b) v)) w) : wo2 P l0 T A B Q ((i, some 1) :: r) e w := q_g hi (by rw [wanted_of rfl ht hb]; cases b <;> rfl) hr hS k
theorem qBFs (hi : nth l0 i = some ⟨some dd, op, ty, pos, af, some (j, false)⟩) (ht : gd l0 j = some t) (hb : e t = sel c (.bool b)) (hr : (c && !b) = true → ∀ w, B w → (execOp (ev e) ⟨some dd, op, ty, pos, af, some (j, false)⟩).run P w = .ok (.value v) w) (hS : B w) (k : wo2 P l0 T A B Q r (upd e dd (sel (c && !b) v)) w) : wo2 P l0 T A B Q ((i, some 1) :: r) e w := q_g hi (by rw [wanted_of_sel rfl ht hb]; cases b <;> rfl) hr hS k
theorem qA1 (hi : nth l0 i = some ⟨some dd, op, ty, pos, af, none⟩) (hr : ∀ w, A w → (execOp (ev e) ⟨some dd, op, ty, pos, af, none⟩).run P w = .ok (.value v) w) (hS : A w) (k : wo2 P l0 T A B Q r (upd e dd v) w) : wo2 P l0 T A B Q ((i, some 2) :: r) e w := ⟨_, v, hi, hS, .inl ⟨rfl, hr⟩, k⟩
theorem qAT (hi : nth l0 i = some ⟨some dd, op, ty, pos, af, some (j, true)⟩) (ht : gd l0 j = some t) (hb : e t = .bool b) (hr : b = true → ∀ w, A w → (execOp (ev e) ⟨some dd, op, ty, pos, af, some (j, true)⟩).run P w = .ok (.value v) w) (hS : A w) (k : wo2 P l0 T A B Q r (upd e dd (sel b v)) w) : wo2 P l0 T A B Q ((i, some 2) :: r) e w := q_g hi (by rw [wanted_of rfl ht hb]; cases b <;> rfl) hr hS k
theorem qATs (hi : nth l0 i = some ⟨some dd, op, ty, pos, af, some (j, true)⟩) (ht : gd l0 j = some t) (hb : e t = sel c (.bool b)) (hr : (c && b) = true → ∀ w, A w → (execOp (ev e) ⟨some dd, op, ty, pos, af, some (j, true)⟩).run P w = .ok (.value v) w) (hS : A w) (k : wo2 P l0 T A B Q r (upd e dd (sel (c && b) v)) w) : wo2 P l0 T A B Q ((i, some 2) :: r) e w := q_g hi (by rw [wanted_of_sel rfl ht hb]; cases b <;> rfl) hr hS k
theorem qAF (hi : nth l0 i = some ⟨some dd, op, ty, pos, af, some (j, false)⟩) (ht : gd l0 j = some t) (hb : e t = .bool b) (hr : (!b) = true → ∀ w, A w → (execOp (ev e) ⟨some dd, op, ty, pos, af, some (j, false)⟩).run P w = .ok (.value v) w) (hS : A w) (k : wo2 P l0 T A B Q r (upd e dd (sel (!b) v)) w) : wo2 P l0 T A B Q ((i, some 2) :: r) e w := q_g hi (by rw [wanted_of rfl ht hb]; cases b <;> rfl) hr hS k
theorem qAFs (hi : nth l0 i = some ⟨some dd, op, ty, pos, af, some (j, false)⟩) (ht : gd l0 j = some t) (hb : e t = sel c (.bool b)) (hr : (c && !b) = true → ∀ w, A w → (execOp (ev e) ⟨some dd, op, ty, pos, af, some (j, false)⟩).run P w = .ok (.value v) w) (hS : A w) (k : wo2 P l0 T A B Q r (upd e dd (sel (c && !b) v)) w) : wo2 P l0 T A B Q ((i, some 2) :: r) e w := q_g hi (by rw [wanted_of_sel rfl ht hb]; cases b <;> rfl) hr hS k
theorem qTw {I : World → Prop} (hi : nth l0 i = some ⟨some dd, op, ty, pos, af, some (j, true)⟩) (ht : gd l0 j = some t) (hb : e t = .bool b) (h0 : I w) (hr : b = true → OwpE P ⟨some dd, op, ty, pos, af, some (j, true)⟩ e w (fun x w' => x = v ∧ I w')) (k : ∀ w', I w' → lev A B (lv T i) w' ∧ wo2 P l0 T A B Q r (upd e dd (sel b v)) w') : wo2 P l0 T A B Q ((i, none) :: r) e w := q_gw hi (by rw [wanted_of rfl ht hb]; cases b <;> rfl) h0 hr k
theorem qTsw {I : World → Prop} (hi : nth l0 i = some ⟨some dd, op, ty, pos, af, some (j, true)⟩) (ht : gd l0 j = some t) (hb : e t = sel c (.bool b)) (h0 : I w) (hr : (c && b) = true → OwpE P ⟨some dd, op, ty, pos, af, some (j, true)⟩ e w (fun x w' => x = v ∧ I w')) (k : ∀ w', I w' → lev A B (lv T i) w' ∧ wo2 P l0 T A B Q r (upd e dd (sel (c && b) v)) w') : wo2 P l0 T A B Q ((i, none) :: r) e w := q_gw hi (by rw [wanted_of_sel rfl ht hb]; cases b <;> rfl) h0 hr k
theorem qFw {I : World → Prop} (hi : nth l0 i = some ⟨some dd, op, ty, pos, af, some (j, false)⟩) (ht : gd l0 j = some t) (hb : e t = .bool b) (h0 : I w) (hr : (!b) = true → OwpE P ⟨some dd, op, ty, pos, af, some (j, false)⟩ e w (fun x w' => x = v ∧ I w')) (k : ∀ w', I w' → lev A B (lv T i) w' ∧ wo2 P l0 T A B Q r (upd e dd (sel (!b) v)) w') : wo2 P l0 T A B Q ((i, none) :: r) e w := q_gw hi (by rw [wanted_of rfl ht hb]; cases b <;> rfl) h0 hr k
theorem qFsw {I : World → Prop} (hi : nth l0 i = some ⟨some dd, op, ty, pos, af, some (j, false)⟩) (ht : gd l0 j = some t) (hb : e t = sel c (.bool b)) (h0 : I w) (hr : (c && !b) = true → OwpE P ⟨some dd, op, ty, pos, af, some (j, false)⟩ e w (fun x w' => x = v ∧ I w')) (k : ∀ w', I w' → lev A B (lv T i) w' ∧ wo2 P l0 T A B Q r (upd e dd (sel (c && !b) v)) w') : wo2 P l0 T A B Q ((i, none) :: r) e w := q_gw hi (by rw [wanted_of_sel rfl ht hb]; cases b <;> rfl) h0 hr k
end
/-! a guard that is known -/
section
variable {P : Program} {l0 : List Oper} {Q : Env → World → Prop} {rest : List Oper} {e : Env} {w : World} {dd j t : Nat} {op : Op} {ty : Nat} {pos : String} {af : Array Edge} {v : Value} {u : Bool}
theorem s1k (ht : gd l0 j = some t) (hb : e t = .bool u) (hr : (execOp (ev e) ⟨some dd, op, ty, pos, af, some (j, u)⟩).run P w = .ok (.value v) w) (k : wlE P l0 Q rest (upd e dd v) w) : wlE P l0 Q (⟨some dd, op, ty, pos, af, some (j, u)⟩ :: rest) e w := by
  unfold wlE
  rw [wanted_of rfl ht hb, beq_self_eq_true]
  exact o_v hr k
theorem sok (ht : gd l0 j = some t) (hb : e t = .bool u) (h : OwpE P ⟨some dd, op, ty, pos, af, some (j, u)⟩ e w (fun v w' => wlE P l0 Q rest (upd e dd v) w')) : wlE P l0 Q (⟨some dd, op, ty, pos, af, some (j, u)⟩ :: rest) e w := by
  unfold wlE
  rw [wanted_of rfl ht hb, beq_self_eq_true]
  exact h
theorem ssk (ht : gd l0 j = some t) (hb : e t = .bool u) (h : OwpE P ⟨none, op, ty, pos, af, some (j, u)⟩ e w (fun _ w' => wlE P l0 Q rest e w')) : wlE P l0 Q (⟨none, op, ty, pos, af, some (j, u)⟩ :: rest) e w := by
  unfold wlE
  rw [wanted_of rfl ht hb, beq_self_eq_true]
  exact h
theorem s1n (ht : gd l0 j = some t) (hb : e t = .bool (!u)) (k : wlE P l0 Q rest (upd e dd undef) w) : wlE P l0 Q (⟨some dd, op, ty, pos, af, some (j, u)⟩ :: rest) e w := by
  unfold wlE
  rw [wanted_of rfl ht hb]
  cases u <;> exact k
end
/-! a guard that is known, the order open -/
section
variable {P : Program} {l0 : List Oper} {Q : Env → World → Prop} {e : Env} {w : World} {T : List Nat} {A B : World → Prop} {r : List (Nat × Option Nat)} {i j t dd : Nat} {op : Op} {ty : Nat} {pos : String} {af : Array Edge} {v : Value} {u : Bool}
theorem wanted_k {o : Oper} (ho : o.guard = some (j, u)) (ht : gd l0 j = some t) (hb : e t = .bool u) : wantedE l0 o e = true := by rw [wanted_of ho ht hb, beq_self_eq_true]
theorem wanted_n {o : Oper} (ho : o.guard = some (j, u)) (ht : gd l0 j = some t) (hb : e t = .bool (!u)) : wantedE l0 o e = false := by rw [wanted_of ho ht hb]; cases u <;> rfl
theorem q0K (hi : nth l0 i = some ⟨some dd, op, ty, pos, af, some (j, u)⟩) (ht : gd l0 j = some t) (hb : e t = .bool u) (hr : ∀ w, (execOp (ev e) ⟨some dd, op, ty, pos, af, some (j, u)⟩).run P w = .ok (.value v) w) (k : wo2 P l0 T A B Q r (upd e dd v) w) : wo2 P l0 T A B Q ((i, some 0) :: r) e w := ⟨_, v, hi, trivial, .inl ⟨wanted_k rfl ht hb, fun w _ => hr w⟩, k⟩
theorem qBK (hi : nth l0 i = some ⟨some dd, op, ty, pos, af, some (j, u)⟩) (ht : gd l0 j = some t) (hb : e t = .bool u) (hr : ∀ w, B w → (execOp (ev e) ⟨some dd, op, ty, pos, af, some (j, u)⟩).run P w = .ok (.value v) w) (hS : B w) (k : wo2 P l0 T A B Q r (upd e dd v) w) : wo2 P l0 T A B Q ((i, some 1) :: r) e w := ⟨_, v, hi, hS, .inl ⟨wanted_k rfl ht hb, hr⟩, k⟩
theorem qAK (hi : nth l0 i = some ⟨some dd, op, ty, pos, af, some (j, u)⟩) (ht : gd l0 j = some t) (hb : e t = .bool u) (hr : ∀ w, A w → (execOp (ev e) ⟨some dd, op, ty, pos, af, some (j, u)⟩).run P w = .ok (.value v) w) (hS : A w) (k : wo2 P l0 T A B Q r (upd e dd v) w) : wo2 P l0 T A B Q ((i, some 2) :: r) e w := ⟨_, v, hi, hS, .inl ⟨wanted_k rfl ht hb, hr⟩, k⟩
theorem q0N (hi : nth l0 i = some ⟨some dd, op, ty, pos, af, some (j, u)⟩) (ht : gd l0 j = some t) (hb : e t = .bool (!u)) (k : wo2 P l0 T A B Q r (upd e dd undef) w) : wo2 P l0 T A B Q ((i, some 0) :: r) e w := ⟨_, _, hi, trivial, .inr ⟨wanted_n rfl ht hb, rfl⟩, k⟩
theorem qBN (hi : nth l0 i = some ⟨some dd, op, ty, pos, af, some (j, u)⟩) (ht : gd l0 j = some t) (hb : e t = .bool (!u)) (hS : B w) (k : wo2 P l0 T A B Q r (upd e dd undef) w) : wo2 P l0 T A B Q ((i, some 1) :: r) e w := ⟨_, _, hi, hS, .inr ⟨wanted_n rfl ht hb, rfl⟩, k⟩
theorem qAN (hi : nth l0 i = some ⟨some dd, op, ty, pos, af, some (j, u)⟩) (ht : gd l0 j = some t) (hb : e t = .bool (!u)) (hS : A w) (k : wo2 P l0 T A B Q r (upd e dd undef) w) : wo2 P l0 T A B Q ((i, some 2) :: r) e w := ⟨_, _, hi, hS, .inr ⟨wanted_n rfl ht hb, rfl⟩, k⟩
theorem qoK (hi : nth l0 i = some ⟨some dd, op, ty, pos, af, some (j, u)⟩) (ht : gd l0 j = some t) (hb : e t = .bool u) (h : OwpE P ⟨some dd, op, ty, pos, af, some (j, u)⟩ e w (fun v w' => lev A B (lv T i) w' ∧ wo2 P l0 T A B Q r (upd e dd v) w')) : wo2 P l0 T A B Q ((i, none) :: r) e w := ⟨_, hi, by rw [wanted_k rfl ht hb]; exact h⟩
theorem qsK (hi : nth l0 i = some ⟨none, op, ty, pos, af, some (j, u)⟩) (ht : gd l0 j = some t) (hb : e t = .bool u) (h : OwpE P ⟨none, op, ty, pos, af, some (j, u)⟩ e w (fun _ w' => lev A B (lv T i) w' ∧ wo2 P l0 T A B Q r e w')) : wo2 P l0 T A B Q ((i, none) :: r) e w := ⟨_, hi, by rw [wanted_k rfl ht hb]; exact h⟩
theorem qoN {dst : Option Nat} (hi : nth l0 i = some ⟨dst, op, ty, pos, af, some (j, u)⟩) (ht : gd l0 j = some t) (hb : e t = .bool (!u)) (k : lev A B (lv T i) w ∧ wo2 P l0 T A B Q r (up e dst undef) w) : wo2 P l0 T A B Q ((i, none) :: r) e w := ⟨_, hi, by rw [wanted_n rfl ht hb]; exact k⟩
theorem wanted_u {o : Oper} (ho : o.guard = some (j, u)) (ht : gd l0 j = some t) (hb : e t = undef) : wantedE l0 o e = false := by
  have h := wanted_of_sel (c := false) (b := u) ho ht hb
  rw [h]; rfl
theorem q0U (hi : nth l0 i = some ⟨some dd, op, ty, pos, af, some (j, u)⟩) (ht : gd l0 j = some t) (hb : e t = undef) (k : wo2 P l0 T A B Q r (upd e dd undef) w) : wo2 P l0 T A B Q ((i, some 0) :: r) e w := ⟨_, _, hi, trivial, .inr ⟨wanted_u rfl ht hb, rfl⟩, k⟩
theorem qBU (hi : nth l0 i = some ⟨some dd, op, ty, pos, af, some (j, u)⟩) (ht : gd l0 j = some t) (hb : e t = undef) (hS : B w) (k : wo2 P l0 T A B Q r (upd e dd undef) w) : wo2 P l0 T A B Q ((i, some 1) :: r) e w := ⟨_, _, hi, hS, .inr ⟨wanted_u rfl ht hb, rfl⟩, k⟩
theorem qAU (hi : nth l0 i = some ⟨some dd, op, ty, pos, af, some (j, u)⟩) (ht : gd l0 j = some t) (hb : e t = undef) (hS : A w) (k : wo2 P l0 T A B Q r (upd e dd undef) w) : wo2 P l0 T A B Q ((i, some 2) :: r) e w := ⟨_, _, hi, hS, .inr ⟨wanted_u rfl ht hb, rfl⟩, k⟩
theorem qoU {dst : Option Nat} (hi : nth l0 i = some ⟨dst, op, ty, pos, af, some (j, u)⟩) (ht : gd l0 j = some t) (hb : e t = undef) (k : lev A B (lv T i) w ∧ wo2 P l0 T A B Q r (up e dst undef) w) : wo2 P l0 T A B Q ((i, none) :: r) e w := ⟨_, hi, by rw [wanted_u rfl ht hb]; exact k⟩
variable {rest : List Oper}
theorem s1u (ht : gd l0 j = some t) (hb : e t = undef) (k : wlE P l0 Q rest (upd e dd undef) w) : wlE P l0 Q (⟨some dd, op, ty, pos, af, some (j, u)⟩ :: rest) e w := by
  unfold wlE
  rw [wanted_u rfl ht hb]
  exact k
theorem ssn (ht : gd l0 j = some t) (hb : e t = .bool (!u)) (k : wlE P l0 Q rest e w) : wlE P l0 Q (⟨none, op, ty, pos, af, some (j, u)⟩ :: rest) e w := by
  unfold wlE
  rw [wanted_n rfl ht hb]
  exact k
end
end K
end Go.Proofs.Ytgdbbaggkoillaa
/- kithref01.Take: the walk. -/
namespace Go.Proofs.Ytgdbbaggkoillaa
open K
set_option maxRecDepth 100000
set_option maxHeartbeats 4000000

theorem vval_drop (l : List UInt8) (j : Nat) (h : j < l.length) : vval (l.drop j) = vval (l.drop (j + 1)) * 128 + (l.getD j 0).toNat % 128 := by
  have e : l.drop j = l.getD j 0 :: l.drop (j + 1) := drop_get l j h
  rw [e]; rfl
theorem mul128 (n : Nat) : IntKind.u64.wrap (((n % 2 ^ 64 : Nat) : Int) * 128) = ((n * 128 % 2 ^ 64 : Nat) : Int) := by
  have : IntKind.u64.wrap (((n % 2 ^ 64 : Nat) : Int) * 128) = (((n % 2 ^ 64 : Nat) : Int) * 128) % 18446744073709551616 := rfl
  rw [this]; omega
theorem add128 (n d : Nat) (hd : d < 128) : IntKind.u64.wrap (((n * 128 % 2 ^ 64 : Nat) : Int) + ((d : Nat) : Int)) = (((n * 128 + d) % 2 ^ 64 : Nat) : Int) := by
  have : IntKind.u64.wrap (((n * 128 % 2 ^ 64 : Nat) : Int) + ((d : Nat) : Int)) = (((n * 128 % 2 ^ 64 : Nat) : Int) + ((d : Nat) : Int)) % 18446744073709551616 := rfl
  rw [this]; omega
theorem getD_take (b : List UInt8) (i j : Nat) (h : j < i) : (b.take i).getD j 0 = b.getD j 0 := by
  simp only [List.getD]
  rw [List.getElem?_take, if_pos h]
theorem c_take01 (b : List UInt8) (hl : b.length ≤ 4611686018427387904) (v : Value) (w : World) (hs : Sl w v b) : Cl Try.prog 67 #[v] w
    (fun r w' => ∃ (n k : Nat) (cd : Int), r = .tuple #[.int .u64 (n : Nat), .int .i64 (k : Nat), .int .i64 cd] ∧ ((cd = 0 ∧ vtake b = (n, k, 0)) ∨ (cd ≠ 0 ∧ n = 0 ∧ k = 0 ∧ (vtake b).2.2 ≠ 0)) ∧ Chg No w w') := by
  obtain ⟨a, c, rfl, hcc, H⟩ := hs
  obtain ⟨m, hm⟩ : ∃ m, m = min b.length 10 := ⟨_, rfl⟩
  have hmin : (min (b.length : Int) 10) = ((m : Nat) : Int) := by omega
  refine f_enter (args := [_]) Try.func67 rfl rfl ?_
  have mm := Mem.nil No w
  refine c_sreg rfl ?_
  refine s1 (r_asi rfl) ?_
  refine s1 (r_asi rfl) ?_
  refine s1 (r_asi rfl) ?_
  refine wn ?_
  refine c_sreg rfl ?_
  refine s1 (r_mvs rfl) ?_
  refine s1 (r_len rfl) ?_
  refine s1 (r_min2 rfl rfl) ?_
  refine s1 (r_asi rfl) ?_
  refine wn ?_
  refine c_sreg rfl ?_
  refine s1 (r_asi rfl) ?_
  refine wn ?_
  refine c_seq ?_
  refine c_block ?_
  refine c_loop (fun kk e w' => ∃ i : Nat, kk + i = m ∧ e 0 = .slice a b.length c ∧ e 5 = .int .i64 (m : Nat) ∧ e 6 = .int .i64 (i : Nat) ∧ Mem w No w' [] ∧ ∀ j, j < i → 128 ≤ (b.getD j 0).toNat) m ?_ ?_
  · exact ⟨0, rfl, rfl, by show Value.int .i64 (min (b.length : Int) 10) = _; rw [hmin], rfl, mm, fun j hj => absurd hj (by omega)⟩
  clear mm
  rintro kk e w9 ⟨i, hki, h0, h5, h6, mm, hh⟩
  refine c_seq ?_
  refine c_sreg rfl ?_
  refine s1 (r_mvi h6) ?_
  refine s1 (r_mvi h5) ?_
  refine s1 (r_lt rfl rfl) ?_
  refine s1 (r_mvb rfl) ?_
  refine sT rfl rfl (fun h => r_mvs h0) ?_
  refine sT rfl rfl (fun h => r_mvi h6) ?_
  refine sT rfl rfl (fun h => r_ix (sel_t h :) (sel_t h :) (by simp at h; omega) (by simp at h; omega) ((mm.ro H).some (nth_u8s b i (by simp at h; omega)))) ?_
  refine sT rfl rfl (fun h => r_ldc (sel_t h :) (mm.ro H) (nth_u8s b i (by simp at h; omega))) ?_
  refine sT rfl rfl (fun h => r_ge (sel_t h :) rfl) ?_
  refine s1 (r_and rfl rfl) ?_
  refine wn ?_
  refine c_cond rfl (fun h => (c_skip (t_n ?_))) (fun h => (c_exit (t_x (t_x (b_x (t_n ?_))))))
  · have hge : i < m ∧ 128 ≤ (b.getD i 0).toNat := by simp at h; exact ⟨by omega, by have := h.2; simp [List.getD] at *; omega⟩
    clear h
    refine c_block ?_
    refine c_region rfl ?_
    refine s1 (r_mvi h6) ?_
    refine s1 (r_add rfl rfl (wi (by omega) (by omega))) ?_
    refine s1 (r_asi rfl) ?_
    refine wn (b_n (t_n ?_))
    refine ⟨kk - 1, by omega, i + 1, by omega, h0, h5, rfl, mm, fun j hj => ?_⟩
    rcases Nat.lt_or_ge j i with hlt | hge2
    · exact hh j hlt
    · obtain rfl : j = i := by omega
      exact hge.2
  have hlow : i = m ∨ i < m ∧ (b.getD i 0).toNat < 128 := by
    rcases Nat.lt_or_ge i m with h1 | h1
    · refine .inr ⟨h1, ?_⟩
      have h2 : decide ((i : Int) < (m : Int)) = true := by simp; omega
      rw [h2, Bool.true_and] at h
      have := of_decide_eq_false h
      omega
    · exact .inl (by omega)
  clear h
  refine c_seq ?_
  refine c_sreg rfl ?_
  refine s1 (r_mvi h6) ?_
  refine s1 (r_mvi h5) ?_
  refine s1 (r_eq rfl rfl) ?_
  refine wn ?_
  refine c_cond rfl (fun h => ?_) (fun h => (c_skip (t_n ?_)))
  · have him : i = m := by simp at h; omega
    have hnone : (vtake b).2.2 ≠ 0 := vtake_none_high fun j hj => hh j (by omega)
    clear h
    refine c_seq ?_
    refine c_sreg rfl ?_
    refine s1 (r_mvi h5) ?_
    refine s1 (r_eq rfl rfl) ?_
    refine wn ?_
    refine c_cond rfl (fun h => ?_) (fun h => (c_skip (t_n ?_)))
    · refine c_sreg rfl ?_
      refine s1 (r_asi rfl) ?_
      refine s1 (r_asi rfl) ?_
      refine s1 (r_asi rfl) ?_
      refine wn ?_
      exact c_ret (ret3 rfl rfl rfl rfl ⟨0, 0, 3, rfl, .inr ⟨by decide, rfl, rfl, hnone⟩, mm.chg⟩)
    refine c_sreg rfl ?_
    refine s1 (r_asi rfl) ?_
    refine s1 (r_asi rfl) ?_
    refine s1 (r_asi rfl) ?_
    refine wn ?_
    exact c_ret (ret3 rfl rfl rfl rfl ⟨0, 0, 2, rfl, .inr ⟨by decide, rfl, rfl, hnone⟩, mm.chg⟩)
  have hi : i < m ∧ (b.getD i 0).toNat < 128 := by
    rcases hlow with h1 | h1
    · simp at h; omega
    · exact h1
  clear h hlow
  have hib : i < b.length := by omega
  refine c_sreg rfl ?_
  refine s1 (r_asi rfl) ?_
  refine wn ?_
  refine c_seq ?_
  refine c_sreg rfl ?_
  refine s1 (r_mvi h6) ?_
  refine s1 (r_asi rfl) ?_
  refine wn ?_
  refine c_block ?_
  refine c_loop (fun kk e w' => kk ≤ i + 1 ∧ e 0 = .slice a b.length c ∧ e 6 = .int .i64 (i : Nat) ∧ e 7 = .int .u64 ((vval ((b.take (i + 1)).drop kk) % 2 ^ 64 : Nat) : Int) ∧ e 8 = .int .i64 ((kk : Nat) - 1 : Int) ∧ Mem w No w' []) (i + 1) ?_ ?_
  · refine ⟨Nat.le_refl _, h0, h6, ?_, ?_, mm⟩
    · show Value.int .u64 0 = _
      rw [List.drop_of_length_le (by rw [List.length_take]; omega)]; rfl
    · show Value.int .i64 (i : Nat) = _
      congr 1; omega
  clear mm h0 h5 h6
  rintro kk e w9 ⟨hk, h0, h6, h7, h8, mm⟩
  refine c_seq ?_
  refine c_sreg rfl ?_
  refine s1 (r_mvi h8) ?_
  refine s1 (r_ge rfl rfl) ?_
  refine wn ?_
  refine c_cond rfl (fun h => (c_skip (t_n ?_))) (fun h => (c_exit (t_x (t_x (b_x (t_n ?_))))))
  · cases kk with
    | zero => exact absurd (of_decide_eq_true h) (by decide)
    | succ j =>
    clear h
    have h8 : e 8 = .int .i64 ((j : Nat) : Int) := by rw [h8]; congr 1; omega
    have hj : j < b.length := by omega
    have hv := vval_drop (b.take (i + 1)) j (by rw [List.length_take]; omega)
    rw [getD_take b (i + 1) j (by omega)] at hv
    have hcn := (b.getD j 0).toNat_lt
    refine c_seq ?_
    refine c_block ?_
    refine c_region rfl ?_
    refine s1 (r_mvi h7) ?_
    refine s1 (r_mul rfl rfl (mul128 _)) ?_
    refine s1 (r_mvs h0) ?_
    refine s1 (r_mvi h8) ?_
    refine s1 (r_ix rfl rfl (by omega) (by omega) ((mm.ro H).some (nth_u8s b j hj))) ?_
    refine s1 (r_ldc rfl (mm.ro H) (nth_u8s b j hj)) ?_
    refine s1 (r_rem rfl rfl (by decide) (nat_tmod _ 128)) ?_
    refine s1 (r_cv rfl (wu64 (by omega) (by omega))) ?_
    refine s1 (r_add rfl rfl (add128 _ _ (by omega))) ?_
    refine s1 (r_asi rfl) ?_
    refine wn (b_n (t_n ?_))
    refine c_region rfl ?_
    refine s1 (r_mvi h8) ?_
    refine s1 (r_sub rfl rfl (wi (by omega) (by omega))) ?_
    refine s1 (r_asi rfl) ?_
    refine wn (t_n ?_)
    refine ⟨j, by omega, by omega, h0, h6, ?_, rfl, mm⟩
    rw [hv]; rfl
  have hk0 : kk = 0 := by have := of_decide_eq_false h; omega
  subst hk0
  clear h
  rw [List.drop_zero] at h7
  have hlt := Nat.mod_lt (vval (b.take (i + 1))) (show 0 < 2 ^ 64 by decide)
  have hdec : (vtake b).2.2 = 0 → vtake b = (vval (b.take (i + 1)) % 2 ^ 64, i + 1, 0) ∧ vput (vval (b.take (i + 1)) % 2 ^ 64) = b.take (i + 1) := fun h0 => by
    have e0 : vtake b = ((vtake b).1, (vtake b).2.1, 0) := by rw [← h0]
    have hf := vtake_first e0 hib hh hi.2
    obtain ⟨h1, h2, h3, h4⟩ := vtake_ok e0
    have h5 := vtake_lt e0
    rw [hf] at h1
    rw [h1, vval_put, Nat.mod_eq_of_lt h5]
    exact ⟨by rw [← hf]; exact e0, rfl⟩
  generalize hq : vval (b.take (i + 1)) % 2 ^ 64 = q at *
  have hb1 : (b.take (i + 1)).length = i + 1 := by rw [List.length_take]; omega
  refine c_seq ?_
  refine c_sdraw mixed [(0, true), (3, true), (4, true), (5, true), (6, true), (7, true), (1, false), (2, false), (8, true)] [true, true, true, true, true, true, true, true, true] (Sof (mm.pk [] (by decide))) (by kernel_rfl) rfl rfl (by kernel_rfl) (fun w2 hc => ?_)
  have mm := mm.frame hc
  refine p1 rfl (fun w m => r_mvi h7) (mm.pk [] (by decide)) ?_
  refine p1 rfl (fun w m => r_mvs h0) (mm.pk [] (by decide)) ?_
  refine p1 rfl (fun w m => r_mvi h6) (mm.pk [] (by decide)) ?_
  refine p1 rfl (fun w m => r_add rfl rfl (wi (by omega) (by omega))) (mm.pk [] (by decide)) ?_
  refine p1 rfl (fun w m => r_slh rfl rfl (by omega) (by omega)) (mm.pk [] (by decide)) ?_
  refine p1 rfl (fun w m => r_b2s rfl (m.ro (H.takeb (i + 1))) (by rw [hb1]; omega)) (mm.pk [] (by decide)) ?_
  refine po rfl (o_c1 rfl (c_vput1 q hlt _) ?_)
  rintro _ w3 ⟨a3, c3, rfl, hc, hn⟩
  have mm := mm.new hc hn
  refine ⟨fun _ => (mm.pk [] (by decide)), ?_⟩
  refine po rfl (o_v (r_b2s rfl (mm.c  0 rfl) rfl) ⟨fun _ => (mm.pk [] (by decide)), ?_⟩)
  refine p1 rfl (fun w m => r_sne rfl rfl) (mm.pk [] (by decide)) ?_
  refine pn ?_
  refine c_cond rfl (fun h => ?_) (fun h => (c_skip (t_n ?_)))
  · have hne : vput q ≠ b.take (i + 1) := by simpa using h
    refine c_sreg rfl ?_
    refine s1 (r_asi rfl) ?_
    refine s1 (r_asi rfl) ?_
    refine s1 (r_asi rfl) ?_
    refine wn ?_
    exact c_ret (ret3 rfl rfl rfl rfl ⟨0, 0, 3, rfl, .inr ⟨by decide, rfl, rfl, fun h0 => hne (hdec h0).2⟩, mm.chg⟩)
  have heq : vput q = b.take (i + 1) := by simpa using h
  have hvt : vtake b = (q, i + 1, 0) := by
    have h1 := vtake_put10 q hlt (b.drop (i + 1))
    rw [heq, List.take_append_drop, hb1] at h1
    exact h1
  refine c_sreg rfl ?_
  refine s1 (r_mvi h7) ?_
  refine s1 (r_mvi h6) ?_
  refine s1 (r_add rfl rfl (wi (by omega) (by omega))) ?_
  refine s1 (r_asi rfl) ?_
  refine s1 (r_asi rfl) ?_
  refine s1 (r_asi rfl) ?_
  refine wn ?_
  exact c_ret (ret3 rfl rfl rfl rfl ⟨q, i + 1, 0, rfl, .inl ⟨rfl, hvt⟩, mm.chg⟩)
end Go.Proofs.Ytgdbbaggkoillaa
/- An event that is handed in, opened. -/
namespace Go.Proofs.Ytgdbbaggkoillaa
open Go.ChangeShapes Go.WideShapes Go.ChangeAt Go.RowKit
open K
set_option maxRecDepth 100000

theorem Try.own : ownKnob Try.prog.godebug = none := by kernel_rfl
theorem Try.laidOut : laidOutB Try.prog = true := by kernel_rfl
theorem list12 {α : Type} {l : List α} (h : l.length = 12) : ∃ a0 a1 a2 a3 a4 a5 a6 a7 a8 a9 a10 a11, l = [a0, a1, a2, a3, a4, a5, a6, a7, a8, a9, a10, a11] := by
  match l, h with
  | [a0, a1, a2, a3, a4, a5, a6, a7, a8, a9, a10, a11], _ => exact ⟨a0, a1, a2, a3, a4, a5, a6, a7, a8, a9, a10, a11, rfl⟩
theorem list8 {α : Type} {l : List α} (h : l.length = 8) : ∃ a0 a1 a2 a3 a4 a5 a6 a7, l = [a0, a1, a2, a3, a4, a5, a6, a7] := by
  match l, h with
  | [a0, a1, a2, a3, a4, a5, a6, a7], _ => exact ⟨a0, a1, a2, a3, a4, a5, a6, a7, rfl⟩
theorem list5 {α : Type} {l : List α} (h : l.length = 5) : ∃ a0 a1 a2 a3 a4, l = [a0, a1, a2, a3, a4] := by
  match l, h with
  | [a0, a1, a2, a3, a4], _ => exact ⟨a0, a1, a2, a3, a4, rfl⟩
def i64 (n : Int) : Prop := -9223372036854775808 ≤ n ∧ n ≤ 9223372036854775807
theorem i64_wf {n : Int} (h : (Lit.int .i64 n).wf = true) : i64 n := by
  simpa [Lit.wf, IntKind.min, IntKind.max, IntKind.signed, IntKind.bits, i64] using h
theorem cells3 : Try.prog.cellsOf 3 = 1 := by kernel_rfl
theorem cells9 : Try.prog.cellsOf 9 = 1 := by kernel_rfl
theorem cells23 : Try.prog.cellsOf 23 = 5 := by kernel_rfl
theorem cells25 : Try.prog.cellsOf 25 = 12 := by kernel_rfl
structure EvIn (x : Ev) : Prop where
  r : i64 x.r
  n : i64 x.n
  c : ∀ i, i < 5 → i64 (x.c.get i)
  h : i64 x.h
  kind : i64 x.kind
  key : x.key.length < 2 ^ 47
  label : i64 x.label
  val : x.val.length < 2 ^ 47
section
variable {H : Type} {enc : TypeId × Value → H} {w : World} {base : Nat} {sp : Nat → Bool} {held : Bool}
def evD (H : Type) (x : Ev) : DataW H := .agg [.lit (.int .i64 x.r), .lit (.int .i64 x.n), .agg [.lit (.int .i64 x.c.c0), .lit (.int .i64 x.c.c1), .lit (.int .i64 x.c.c2), .lit (.int .i64 x.c.c3), .lit (.int .i64 x.c.c4)], .lit (.int .i64 x.h), .lit (.int .i64 x.kind), .lit (.string x.key), .lit (.int .i64 x.label), .lit (.string x.val)]
theorem trod_clk {n : Nat} {cs : List Value} {y : DataW H × List MemPlace} (h : DataW.trod enc Try.prog w base sp held n 23 cs = some y) :
    ∃ c : Clk, cs = clkC c ∧ y = (.agg [.lit (.int .i64 c.c0), .lit (.int .i64 c.c1), .lit (.int .i64 c.c2), .lit (.int .i64 c.c3), .lit (.int .i64 c.c4)], []) ∧ ∀ i, i < 5 → i64 (c.get i) := by
  obtain ⟨xs, m, _, hx, hl, hlen, hf⟩ := DataW.trod_array Try.underlying23 h
  obtain ⟨y0, y1, y2, y3, y4, rfl⟩ := list5 hlen
  rw [cells23] at hl
  obtain ⟨c0, c1, c2, c3, c4, rfl⟩ := list5 hl
  simp only [cells3] at hf
  obtain ⟨n0, e0, rfl, w0⟩ := DataW.trod_int Try.underlying3 (hf 0 (by decide))
  obtain ⟨n1, e1, rfl, w1⟩ := DataW.trod_int Try.underlying3 (hf 1 (by decide))
  obtain ⟨n2, e2, rfl, w2⟩ := DataW.trod_int Try.underlying3 (hf 2 (by decide))
  obtain ⟨n3, e3, rfl, w3⟩ := DataW.trod_int Try.underlying3 (hf 3 (by decide))
  obtain ⟨n4, e4, rfl, w4⟩ := DataW.trod_int Try.underlying3 (hf 4 (by decide))
  refine ⟨⟨n0, n1, n2, n3, n4⟩, ?_, hx, ?_⟩
  · injection e0 with e0; injection e1 with e1; injection e2 with e2; injection e3 with e3; injection e4 with e4
    subst e0; subst e1; subst e2; subst e3; subst e4; rfl
  · intro i hi
    match i, hi with
    | 0, _ => exact i64_wf w0 | 1, _ => exact i64_wf w1 | 2, _ => exact i64_wf w2 | 3, _ => exact i64_wf w3 | 4, _ => exact i64_wf w4

theorem trod_ev {n : Nat} {cs : List Value} {y : DataW H × List MemPlace} (h : DataW.trod enc Try.prog w base sp held n 25 cs = some y) :
    ∃ x : Ev, cs = evC x ∧ y = (evD H x, []) ∧ (((evD H x).weights Try.prog 25).all (· ≤ reachBytes) = true → EvIn x) := by
  obtain ⟨xs, m, _, hx, hl, hlen, hf⟩ := DataW.trod_struct Try.underlying25 h
  obtain ⟨y0, y1, y2, y3, y4, y5, y6, y7, rfl⟩ := list8 hlen
  rw [cells25] at hl
  obtain ⟨c0, c1, c2, c3, c4, c5, c6, c7, c8, c9, c10, c11, rfl⟩ := list12 hl
  have g0 : DataW.trod enc Try.prog w base sp held m 3 (List.take (Try.prog.cellsOf 3) _) = _ := hf 0 _ rfl
  rw [cells3] at g0
  have g1 : DataW.trod enc Try.prog w base sp held m 3 (List.take (Try.prog.cellsOf 3) _) = _ := hf 1 _ rfl
  rw [cells3] at g1
  have g2 : DataW.trod enc Try.prog w base sp held m 23 (List.take (Try.prog.cellsOf 23) _) = _ := hf 2 _ rfl
  rw [cells23] at g2
  have g3 : DataW.trod enc Try.prog w base sp held m 3 (List.take (Try.prog.cellsOf 3) _) = _ := hf 3 _ rfl
  rw [cells3] at g3
  have g4 : DataW.trod enc Try.prog w base sp held m 3 (List.take (Try.prog.cellsOf 3) _) = _ := hf 4 _ rfl
  rw [cells3] at g4
  have g5 : DataW.trod enc Try.prog w base sp held m 9 (List.take (Try.prog.cellsOf 9) _) = _ := hf 5 _ rfl
  rw [cells9] at g5
  have g6 : DataW.trod enc Try.prog w base sp held m 3 (List.take (Try.prog.cellsOf 3) _) = _ := hf 6 _ rfl
  rw [cells3] at g6
  have g7 : DataW.trod enc Try.prog w base sp held m 9 (List.take (Try.prog.cellsOf 9) _) = _ := hf 7 _ rfl
  rw [cells9] at g7
  obtain ⟨n0, e0, rfl, w0⟩ := DataW.trod_int Try.underlying3 g0
  obtain ⟨n1, e1, rfl, w1⟩ := DataW.trod_int Try.underlying3 g1
  obtain ⟨c, e2, rfl, w2⟩ := trod_clk g2
  obtain ⟨n3, e3, rfl, w3⟩ := DataW.trod_int Try.underlying3 g3
  obtain ⟨n4, e4, rfl, w4⟩ := DataW.trod_int Try.underlying3 g4
  obtain ⟨n5, e5, rfl, w5⟩ := DataW.trod_string Try.underlying9 g5
  obtain ⟨n6, e6, rfl, w6⟩ := DataW.trod_int Try.underlying3 g6
  obtain ⟨n7, e7, rfl, w7⟩ := DataW.trod_string Try.underlying9 g7
  refine ⟨⟨n0, n1, c, n3, n4, n5.data.toList, n6, n7.data.toList⟩, ?_, hx, ?_⟩
  · injection e0 with e0; injection e1 with e1; injection e3 with e3; injection e4 with e4; injection e5 with e5; injection e6 with e6; injection e7 with e7
    injection e2 with q0 e2; injection e2 with q1 e2; injection e2 with q2 e2; injection e2 with q3 e2; injection e2 with q4 e2
    subst e0; subst e1; subst e3; subst e4; subst e5; subst e6; subst e7; subst q0; subst q1; subst q2; subst q3; subst q4
    rfl
  · intro hw
    simp only [evD, DataW.weights, Try.underlying25, Try.underlying23, Try.underlying3, DataW.weightsEach, DataW.weightsAll, List.map, List.nil_append, List.append_nil, List.all_append, List.all_cons, List.all_nil, Bool.and_true, Bool.and_eq_true, decide_eq_true_eq] at hw
    exact ⟨i64_wf w0, i64_wf w1, w2, i64_wf w3, i64_wf w4, Nat.lt_of_le_of_lt hw.1 reachBytes_lt, i64_wf w6, Nat.lt_of_le_of_lt hw.2 reachBytes_lt⟩
theorem open_ev {b0 : Nat} {v : Value} {d : DataW H} {p : List MemPlace} (hv : Value.okWide Try.prog w .any b0 25 v) (h : DataW.Trod enc Try.prog w base sp held 25 v d p) :
    ∃ x : Ev, v = .agg (evC x).toArray ∧ d = evD H x ∧ p = [] ∧ (((evD H x).weights Try.prog 25).all (· ≤ reachBytes) = true → EvIn x) := by
  obtain ⟨⟨l⟩, rfl, hsz⟩ := okWide_struct Try.underlying25 hv
  obtain ⟨fuel, hf⟩ := h
  obtain ⟨x, hc, hy, hw⟩ := trod_ev (show DataW.trod enc Try.prog w base sp held fuel 25 l = some (d, p) from hf)
  subst hc
  injection hy with h1 h2
  exact ⟨x, rfl, h1, h2, hw⟩
end
end Go.Proofs.Ytgdbbaggkoillaa
/- kithref06.Fit: walk. -/
namespace Go.Proofs.Ytgdbbaggkoillaa
open K
set_option maxRecDepth 100000
set_option maxHeartbeats 4000000

theorem nth_evi (x : Ev) (i : Nat) (h : i < 5) : nth (evC x) (0 + 2 + (i : Int).toNat * 1) = some (.int .i64 (x.c.get i)) := by
  match i, h with
  | 0, _ => rfl | 1, _ => rfl | 2, _ => rfl | 3, _ => rfl | 4, _ => rfl
theorem blt_evi (x : Ev) (i : Nat) (h : i < 5) : Nat.blt (0 + 2 + (i : Int).toNat * 1) (evC x).length = true := by
  match i, h with
  | 0, _ => rfl | 1, _ => rfl | 2, _ => rfl | 3, _ => rfl | 4, _ => rfl
theorem setN_evi (x : Ev) (i : Nat) (h : i < 5) (v : Int) : setN (evC x) (0 + 2 + (i : Int).toNat * 1) (.int .i64 v) = evC { x with c := x.c.set i v } := by
  match i, h with
  | 0, _ => rfl | 1, _ => rfl | 2, _ => rfl | 3, _ => rfl | 4, _ => rfl
theorem nth_evr (x : Ev) (r : Int) (h0 : 0 ≤ r) (h : r < 5) : nth (evC x) (0 + 2 + r.toNat * 1) = some (.int .i64 (x.c.get r.toNat)) := by
  obtain ⟨i, rfl⟩ := Int.eq_ofNat_of_zero_le h0
  exact nth_evi x i (by omega)
theorem blt_evr (x : Ev) (r : Int) (h0 : 0 ≤ r) (h : r < 5) : Nat.blt (0 + 2 + r.toNat * 1) (evC x).length = true := by
  obtain ⟨i, rfl⟩ := Int.eq_ofNat_of_zero_le h0
  exact blt_evi x i (by omega)
theorem setN_evr (x : Ev) (r : Int) (h0 : 0 ≤ r) (h : r < 5) (v : Int) : setN (evC x) (0 + 2 + r.toNat * 1) (.int .i64 v) = evC { x with c := x.c.set r.toNat v } := by
  obtain ⟨i, rfl⟩ := Int.eq_ofNat_of_zero_le h0
  exact setN_evi x i (by omega) v
def ev0 : Ev := ⟨0, 0, clk0, 0, 0, [], 0, []⟩
theorem K.Mem.castb {w0 w : World} {F0 : Nat → Prop} {I J K : It} {b : Nat} {cs cs' : List Value} {T : TypeId} (h : Mem w0 F0 w [I, J, K, bk b cs T]) (hc : cs = cs') : Mem w0 F0 w [I, J, K, bk b cs' T] := by subst hc; exact h

theorem c_fit6 (x : Ev) (hx : EvIn x) (w : World) : Cl Try.prog 19 #[.agg (evC x).toArray] w (fun v w' => v = .agg (evC (fitEv x)).toArray ∧ Chg No w w') := by
  have hn : 0 ≤ bitv .and .i64 x.n 1048575 ∧ bitv .and .i64 x.n 1048575 ≤ 1048575 := m20_in x.n
  have hh : 0 ≤ bitv .and .i64 x.h 16777215 ∧ bitv .and .i64 x.h 16777215 ≤ 16777215 := m24_in x.h
  have hq := tmod_in x.r 5 (by decide)
  refine f_enter (args := [_]) Try.func19 rfl rfl ?_
  have mm := Mem.nil No w
  refine c_sreg rfl ?_
  refine so (o_bxa mm rfl fun b2 w2 mm => ?_)
  refine so (o_al mm fun b3 w3 mm => ?_)
  refine wn ?_
  refine c_sreg rfl ?_
  refine s1 (r_lda rfl (mm.b 0 rfl) rfl) ?_
  refine so (o_c1 rfl (c_edit6 x _) ?_)
  rintro _ w4 ⟨rfl, hc⟩
  have mm := mm.frame hc
  refine so (o_c1 rfl (c_fit5 x.ed hx.key hx.val _) ?_)
  rintro _ w5 ⟨rfl, hc⟩
  have mm := mm.frame hc
  refine so (o_al mm fun b6 w6 mm => ?_)
  refine ss (o_sta mm 2 rfl rfl rfl rfl rfl (Nat.le_of_ble_eq_true rfl) fun w7 mm => ?_)
  refine wn ?_
  refine c_sreg rfl ?_
  refine s1 (r_fa rfl) ?_
  refine s1 (r_ld rfl (mm.b 0 rfl) rfl) ?_
  refine s1 (r_rem rfl rfl (by decide) rfl) ?_
  refine s1 (r_add rfl rfl (wi (by omega) (by omega))) ?_
  refine s1 (r_rem rfl rfl (by decide) rfl) ?_
  refine s1 (r_fa rfl) ?_
  refine s1 (r_ld rfl (mm.b 0 rfl) rfl) ?_
  refine s1 (r_band rfl rfl rfl) ?_
  refine s1 (r_add rfl rfl (wi (by omega) (by omega))) ?_
  refine s1 (r_fa rfl) ?_
  refine s1 (r_ld rfl (mm.b 0 rfl) rfl) ?_
  refine s1 (r_band rfl rfl rfl) ?_
  refine s1 (r_add rfl rfl (wi (by omega) (by omega))) ?_
  refine s1 (r_fa rfl) ?_
  refine s1 (r_ld rfl (mm.b 2 rfl) rfl) ?_
  refine s1 (r_fa rfl) ?_
  refine s1 (r_ld rfl (mm.b 2 rfl) rfl) ?_
  refine s1 (r_fa rfl) ?_
  refine s1 (r_ld rfl (mm.b 2 rfl) rfl) ?_
  refine s1 (r_fa rfl) ?_
  refine s1 (r_ld rfl (mm.b 2 rfl) rfl) ?_
  refine s1 (r_bd (bi rfl (bi rfl (bi rfl (bi rfl (bt rfl (bi rfl (bt rfl bN))))))) rfl) ?_
  refine so (o_al mm fun b8 w8 mm => ?_)
  refine ss (o_sta mm 3 rfl rfl rfl rfl rfl (Nat.le_of_ble_eq_true rfl) fun w9 mm => ?_)
  refine wn ?_
  have mm : Mem w No w9 [bk b2 (evC x) 25, bk b3 (evC ev0) 25, bk b6 (edC (fitEd x.ed)) 73, bk b8 (evC ⟨fitR x.r, 1 + m20 x.n, clk0, 1 + m24 x.h, (fitEd x.ed).kind, (fitEd x.ed).key, (fitEd x.ed).label, (fitEd x.ed).val⟩) 25] := mm
  refine c_seq ?_
  refine c_sreg rfl ?_
  refine s1 (r_asi rfl) ?_
  refine wn ?_
  refine c_block ?_
  refine c_loop (fun k e w' => ∃ (i : Nat) (c : Clk), k + i = 5 ∧ e 1 = .pointer (some ⟨b2, 0, none⟩) ∧ e 2 = .pointer (some ⟨b3, 0, none⟩) ∧ e 4 = .pointer (some ⟨b8, 0, none⟩) ∧ e 5 = .int .i64 i ∧ Mem w No w' [bk b2 (evC x) 25, bk b3 (evC ev0) 25, bk b6 (edC (fitEd x.ed)) 73, bk b8 (evC ⟨fitR x.r, 1 + m20 x.n, c, 1 + m24 x.h, (fitEd x.ed).kind, (fitEd x.ed).key, (fitEd x.ed).label, (fitEd x.ed).val⟩) 25] ∧ ∀ j, j < i → j < 5 → c.get j = m20 (x.c.get j)) 5 ?_ ?_
  · exact ⟨0, clk0, rfl, rfl, rfl, rfl, rfl, mm, fun j hj => absurd hj (by omega)⟩
  rintro k e w' ⟨i, c, hki, h1, h2, h4, h5, mm, hc⟩
  refine c_seq ?_
  refine c_sreg rfl ?_
  refine s1 (r_mvi h5) ?_
  refine s1 (r_lt rfl rfl) ?_
  refine wn ?_
  refine c_cond rfl (fun h => (c_skip (t_n ?_))) (fun h => (c_exit (t_x (t_x (b_x (t_n ?_))))))
  · have hi : i < 5 := by simp at h; omega
    clear h
    refine c_seq ?_
    refine c_block ?_
    refine c_region rfl ?_
    refine s1 (r_mvi h5) ?_
    refine s1 (r_mvi h5) ?_
    refine s1 (r_fa h1) ?_
    refine s1 (r_ixa rfl rfl (by omega) (by omega)) ?_
    refine s1 (r_ld rfl (mm.b 0 rfl) (nth_evi x i hi)) ?_
    refine s1 (r_band rfl rfl rfl) ?_
    refine s1 (r_fa h4) ?_
    refine s1 (r_ixa rfl rfl (by omega) (by omega)) ?_
    refine ss (o_st mm 3 rfl rfl rfl rfl (blt_evi _ i hi) fun w10 mm => ?_)
    refine wn (b_n (t_n ?_))
    have mm := mm.castb (setN_evi _ i hi _)
    refine c_region rfl ?_
    refine s1 (r_mvi h5) ?_
    refine s1 (r_add rfl rfl (wi (by omega) (by omega))) ?_
    refine s1 (r_asi rfl) ?_
    refine wn (t_n ?_)
    refine ⟨k - 1, by omega, i + 1, _, by omega, h1, h2, h4, rfl, mm, ?_⟩
    intro j hj hj5
    show (c.set i (m20 (x.c.get i))).get j = _
    rw [Clk.get_set _ _ _ hi hj5]
    by_cases hij : i = j
    · rw [if_pos hij, hij]
    · rw [if_neg hij]; exact hc j (by omega) hj5
  have hi : i = 5 := by simp at h; omega
  subst hi
  have hcc : c = fitC x.c := Clk.ext' fun j hj => by rw [hc j hj hj, fitC_get]
  subst hcc
  clear h5 h hc
  have hr := fitR_in x.r
  refine c_sreg rfl ?_
  refine s1 (r_fa h4) ?_
  refine s1 (r_ld rfl (mm.b 3 rfl) rfl) ?_
  refine s1 (r_fa h4) ?_
  refine s1 (r_ld rfl (mm.b 3 rfl) rfl) ?_
  refine s1 (r_sub rfl rfl (show IntKind.i64.wrap (1 + m20 x.n - 1) = m20 x.n from by have := m20_in x.n; rw [wi (by omega) (by omega)]; omega)) ?_
  refine s1 (r_fa h4) ?_
  refine s1 (r_ixa rfl rfl (show 0 ≤ fitR x.r from hr.1) (show fitR x.r < 5 from hr.2)) ?_
  refine ss (o_st mm 3 rfl rfl rfl rfl (blt_evr _ _ hr.1 hr.2) fun w11 mm => ?_)
  refine wn ?_
  have mm := mm.castb (setN_evr _ _ hr.1 hr.2 _)
  refine c_sreg rfl ?_
  refine s1 (r_lda h4 (mm.b 3 rfl) rfl) ?_
  refine ss (o_sta mm 1 rfl h2 rfl rfl rfl (Nat.le_of_ble_eq_true rfl) fun w12 mm => ?_)
  refine wn ?_
  exact c_ret (retc rfl h2 (mm.b 1 rfl) rfl ⟨rfl, mm.chg⟩)
end Go.Proofs.Ytgdbbaggkoillaa
