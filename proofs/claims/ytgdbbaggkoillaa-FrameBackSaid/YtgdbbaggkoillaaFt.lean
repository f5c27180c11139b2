/- Frames read: plain. -/
import Derived.Test.YtgdbbaggkoillaaFv
import Derived.Test.YtgdbbaggkoillaaFy
import Derived.Test.YtgdbbaggkoillaaRc
import Derived.Test.YtgdbbaggkoillaaTr
import Derived.Test.YtgdbbaggkoillaaCr
namespace Go.Proofs.Ytgdbbaggkoillaa
open K
def numT (b : List UInt8) : Nat × List UInt8 × Bool := (min (vtake b).1 1048577, b.drop (vtake b).2.1, decide ((vtake b).2.2 = 0))
def clkTT (b : List UInt8) : Nat → Clk × List UInt8 × Bool
  | 0 => (clk0, b, true)
  | i + 1 => ((clkTT b i).1.set i (numT (clkTT b i).2.1).1, (numT (clkTT b i).2.1).2.1, (clkTT b i).2.2 && (numT (clkTT b i).2.1).2.2)
def evT1 (q : List Ev × List UInt8) : Option (List Ev × List UInt8) := if (takeE q.2).2.2 = 0 then some (q.1 ++ [(takeE q.2).1], q.2.drop (takeE q.2).2.1.toNat) else none
def evT (b : List UInt8) : Nat → Option (List Ev × List UInt8)
  | 0 => some ([], b)
  | i + 1 => (evT b i).bind evT1
def bodyS (b : List UInt8) : Option (Rec × List UInt8 × Bool) :=
  if b.length < 3 then none else
  let k : Int := (b.getD 0 0).toNat
  let r : Int := (b.getD 1 0).toNat
  let s := b.drop 2
  if fHas k = 2 then some (⟨k, r, (numT s).1, clk0, []⟩, (numT s).2.1, (numT s).2.2)
  else if fHas k = 3 then some (⟨k, r, 0, (clkTT s 5).1, []⟩, (clkTT s 5).2.1, (clkTT s 5).2.2)
  else if fHas k = 1 then (evT (s.drop 1) (s.getD 0 0).toNat).map fun q => (⟨k, r, 0, clk0, q.1⟩, q.2, true)
  else some (⟨k, r, 0, clk0, []⟩, s, true)
def bodyQ (q : Rec × List UInt8 × Bool) : Option Rec := if q.2.2 && decide (q.2.1.length = 0) && frMay q.1 then some q.1 else none
def bodyT (b : List UInt8) : Option Rec := (bodyS b).bind bodyQ
def takeF (b : List UInt8) : Rec × Int :=
  if 2048 < b.length then (rec0, 5) else
  match openL b with
  | none => (rec0, 4)
  | some t =>
    if (vtake t).2.2 ≠ 0 ∨ (vtake t).1 ≠ t.length - (vtake t).2.1 then (rec0, 3) else
    match bodyT (t.drop (vtake t).2.1) with
    | none => (rec0, 3)
    | some f => (f, 0)

theorem vtake_split {b : List UInt8} (h : (vtake b).2.2 = 0) : b = vput (vtake b).1 ++ b.drop (vtake b).2.1 ∧ (vtake b).2.1 = (vput (vtake b).1).length ∧ (vtake b).2.1 ≤ b.length := by
  have e : vtake b = ((vtake b).1, (vtake b).2.1, 0) := by rw [← h]
  obtain ⟨h1, h2, h3, _⟩ := vtake_ok e
  refine ⟨?_, h2, h3⟩
  rw [← h1, List.take_append_drop]
theorem numT_ok {b : List UInt8} (h : (numT b).2.2 = true) (hn : (numT b).1 ≤ 1048576) : b = vput (numT b).1 ++ (numT b).2.1 := by
  have h0 : (vtake b).2.2 = 0 := by simpa [numT] using h
  have hm : (numT b).1 = (vtake b).1 := by unfold numT at *; simp only at *; omega
  rw [hm]
  exact (vtake_split h0).1
theorem numT_put (n : Nat) (hn : n ≤ 1048576) (s : List UInt8) : numT (vput n ++ s) = (n, s, true) := by
  unfold numT
  rw [vtake_put n (Nat.le_trans (vput_len 3 n (by omega)) (by decide)) s]
  simp only [List.drop_left]
  rw [Nat.min_eq_left (by omega)]; rfl
theorem clkTT_ok {b : List UInt8} (C : Clk) (hC : ∀ j, j < 5 → C.get j ≤ 1048576) : ∀ i, i ≤ 5 → (clkTT b i).2.2 = true → (∀ j, j < i → C.get j = (clkTT b i).1.get j) → b = clkB C i ++ (clkTT b i).2.1
  | 0, _, _, _ => rfl
  | i + 1, hi, h, hc => by
    rw [clkTT] at h hc ⊢
    simp only [Bool.and_eq_true] at h hc ⊢
    have hci : C.get i = (numT (clkTT b i).2.1).1 := by rw [hc i (by omega), Clk.get_set _ _ _ (by omega) (by omega), if_pos rfl]
    have h1 := clkTT_ok C hC i (by omega) h.1 fun j hj => by
      rw [hc j (by omega), Clk.get_set _ _ _ (by omega) (by omega), if_neg (by omega)]
    have h2 := numT_ok h.2 (by have := hC i (by omega); omega)
    conv => lhs; rw [h1]
    rw [clkB_succ, hci, List.append_assoc]
    congr 1
theorem clkTT_put (C : Clk) (hC : ∀ j, j < 5 → 0 ≤ C.get j ∧ C.get j ≤ 1048576) : ∀ i, i ≤ 5 → ∀ s, ∃ c, clkTT (clkB C i ++ s) i = (c, s, true) ∧ ∀ j, j < i → c.get j = C.get j
  | 0, _, s => ⟨clk0, rfl, fun j hj => absurd hj (by omega)⟩
  | i + 1, hi, s => by
    obtain ⟨c, h1, h2⟩ := clkTT_put C hC i (by omega) (vput (C.get i).toNat ++ s)
    have hci := hC i (by omega)
    refine ⟨c.set i (C.get i), ?_, fun j hj => ?_⟩
    · rw [clkTT, clkB_succ, List.append_assoc, h1]
      simp only
      rw [numT_put _ (by omega)]
      simp only [Bool.and_self]
      have : (((C.get i).toNat : Nat) : Int) = C.get i := by omega
      rw [this]
    · rw [Clk.get_set _ _ _ (by omega) (by omega)]
      by_cases hij : i = j
      · rw [if_pos hij, hij]
      · rw [if_neg hij]; exact h2 j (by omega)
theorem evT_ok {b : List UInt8} : ∀ (i : Nat) {l : List Ev} {s : List UInt8}, evT b i = some (l, s) → l.length = i ∧ b = evsB l ++ s
  | 0, l, s, h => by
    rw [evT] at h
    cases h
    exact ⟨rfl, rfl⟩
  | i + 1, l, s, h => by
    rw [evT] at h
    cases hq : evT b i with
    | none => rw [hq] at h; cases h
    | some q =>
      rw [hq] at h
      obtain ⟨l', s'⟩ := q
      obtain ⟨h1, h2⟩ := evT_ok i hq
      have h : evT1 (l', s') = some (l, s) := h
      unfold evT1 at h
      simp only at h
      split at h
      · rename_i h0
        rcases takeE_any s' with ⟨_, _, h5, _, h7⟩ | ⟨h5, _⟩
        · cases h
          refine ⟨by rw [List.length_append, h1]; rfl, ?_⟩
          rw [h5]
          have e : (((putE (takeE s').1).length : Nat) : Int).toNat = (putE (takeE s').1).length := by omega
          rw [e, h2]
          show _ = (l' ++ [(takeE s').1]).flatMap putE ++ _
          rw [List.flatMap_append, List.append_assoc]
          congr 1
          show s' = ([(takeE s').1].flatMap putE) ++ _
          have e2 : [(takeE s').1].flatMap putE = putE (takeE s').1 := by simp
          rw [e2]
          conv => lhs; rw [← List.take_append_drop (putE (takeE s').1).length s', h7]
        · exact absurd h0 h5
      · cases h
theorem evT_put (l : List Ev) (hl : ∀ y ∈ l, evMay y = 0) : ∀ i, i ≤ l.length → ∀ s, evT (evsB (l.take i) ++ s) i = some (l.take i, s)
  | 0, _, s => rfl
  | i + 1, hi, s => by
    rw [evT, evsB_succ l i (by omega), List.append_assoc, evT_put l hl i (by omega)]
    show evT1 (l.take i, putE l[i] ++ s) = _
    have hy := evMay_ok (hl l[i] (List.getElem_mem _))
    unfold evT1
    simp only
    rw [takeE_put _ hy]
    simp only [if_true]
    rw [List.take_succ_eq_append_getElem (by omega : i < l.length)]
    have : (((putE l[i]).length : Nat) : Int).toNat = (putE l[i]).length := by omega
    rw [this, List.drop_left]
theorem get2 {b : List UInt8} (h : 3 ≤ b.length) : b = b.getD 0 0 :: b.getD 1 0 :: b.getD 2 0 :: b.drop 3 := by
  match b, h with
  | x :: y :: z :: l, _ => rfl
theorem bodyT_ok {b : List UInt8} {f : Rec} (h : bodyT b = some f) : frMay f = true ∧ bodyF f = b := by
  unfold bodyT at h
  cases hq : bodyS b with
  | none => rw [hq] at h; cases h
  | some q =>
    rw [hq] at h
    have h : bodyQ q = some f := h
    unfold bodyQ at h
    split at h
    · rename_i hc
      simp only [Bool.and_eq_true, decide_eq_true_eq] at hc
      obtain ⟨⟨hok, hnil⟩, hmay⟩ := hc
      have hnil := List.eq_nil_of_length_eq_zero hnil
      cases h
      refine ⟨hmay, ?_⟩
      have ok := frMay_ok hmay
      unfold bodyS at hq
      split at hq
      · cases hq
      rename_i hlen
      have hb := get2 (Nat.le_of_not_lt hlen)
      have hd2 : b.drop 2 = b.getD 2 0 :: b.drop 3 := by rw [hb]; rfl
      have key : ∀ q1 : Rec, q1.kind = ((b.getD 0 0).toNat : Int) → q1.r = ((b.getD 1 0).toNat : Int) → (if fHas q1.kind = 2 then vput q1.upto.toNat else if fHas q1.kind = 3 then clkB q1.c 5 else UInt8.ofNat q1.es.length :: evsB q1.es) = b.drop 2 → bodyF q1 = b := by
        intro q1 e1 e2 e3
        unfold bodyF
        rw [e3, ofNat_of e1, ofNat_of e2, hd2]
        exact hb.symm
      simp only at hq
      generalize hs : b.drop 2 = s at *
      split at hq
      · rename_i h2
        cases hq
        refine key _ rfl rfl ?_
        rw [if_pos h2]
        have hu := ok.u1
        have hu : (((numT s).1 : Nat) : Int) ≤ 1048576 := hu
        have h3 := numT_ok hok (by omega)
        have hnil : (numT s).2.1 = [] := hnil
        rw [hnil, List.append_nil] at h3
        exact h3.symm
      · rename_i h2
        split at hq
        · rename_i h3
          have h4 := fun C hC => clkTT_ok (b := s) C hC 5 (Nat.le_refl _)
          generalize clkTT s 5 = t at h4 hq
          obtain ⟨tc, tl, tb⟩ := t
          cases hq
          refine key _ rfl rfl ?_
          rw [if_neg h2, if_pos h3]
          have h4 := h4 tc (fun j hj => (ok.c j hj).2) hok fun _ _ => rfl
          have hnil : tl = [] := hnil
          rw [hnil, List.append_nil] at h4
          exact h4.symm
        · rename_i h3
          split at hq
          · rename_i h1
            cases hv : evT (s.drop 1) (s.getD 0 0).toNat with
            | none => rw [hv] at hq; cases hq
            | some p =>
              rw [hv] at hq
              cases hq
              obtain ⟨l, t⟩ := p
              obtain ⟨h4, h5⟩ := evT_ok _ hv
              refine key _ rfl rfl ?_
              rw [if_neg h2, if_neg h3]
              have hnil : t = [] := hnil
              show UInt8.ofNat l.length :: evsB l = s
              rw [hnil, List.append_nil] at h5
              rw [← h5, h4, hd2]
              simp
          · rename_i h1
            cases hq
            exfalso
            rcases fHas_123 ((b.getD 0 0).toNat : Int) with h | h | h | h
            · exact ok.is h
            · exact h1 h
            · exact h2 h
            · exact h3 h
    · cases h
theorem bodyF_cons (x : Rec) : bodyF x = UInt8.ofNat x.kind.toNat :: UInt8.ofNat x.r.toNat :: (if fHas x.kind = 2 then vput x.upto.toNat else if fHas x.kind = 3 then clkB x.c 5 else UInt8.ofNat x.es.length :: evsB x.es) := rfl
theorem bodyF_len3 (x : Rec) : 3 ≤ (bodyF x).length := by
  rw [bodyF_cons, List.length_cons, List.length_cons]
  have : 0 < (if fHas x.kind = 2 then vput x.upto.toNat else if fHas x.kind = 3 then clkB x.c 5 else UInt8.ofNat x.es.length :: evsB x.es).length := by
    split
    · exact vput_pos _
    · split
      · rw [clkB_succ, List.length_append]; have := vput_pos (x.c.get 4).toNat; omega
      · simp
  omega
theorem byteN (n : Int) (h0 : 0 ≤ n) (h1 : n ≤ 255) : (((UInt8.ofNat n.toNat).toNat : Nat) : Int) = n := by
  have h : (UInt8.ofNat n.toNat).toNat = n.toNat := by rw [UInt8.toNat_ofNat']; omega
  rw [h]; omega
theorem bodyT_of {x : Rec} (hm : frMay x = true) : bodyT (bodyF x) = some x := by
  have ok := frMay_ok hm
  have hk := fHas_in ok.is
  have h3 := bodyF_len3 x
  have hq : bodyS (bodyF x) = some (x, [], true) := by
    unfold bodyS
    rw [if_neg (by omega)]
    have e0 : (bodyF x).getD 0 0 = UInt8.ofNat x.kind.toNat := rfl
    have e1 : (bodyF x).getD 1 0 = UInt8.ofNat x.r.toNat := rfl
    have e2 : (bodyF x).drop 2 = (if fHas x.kind = 2 then vput x.upto.toNat else if fHas x.kind = 3 then clkB x.c 5 else UInt8.ofNat x.es.length :: evsB x.es) := rfl
    rw [e0, e1, e2, byteN _ (by omega) (by omega), byteN _ ok.r0 (by have := ok.r5; omega)]
    simp only
    by_cases h2 : fHas x.kind = 2
    · rw [if_pos h2, if_pos h2]
      have hes : x.es = [] := ok.h1.resolve_left (by rw [h2]; decide)
      have hcc : x.c = clk0 := ok.h3.resolve_left (by rw [h2]; decide)
      have hn := numT_put x.upto.toNat (by have := ok.u1; omega) []
      rw [List.append_nil] at hn
      rw [hn]
      simp only
      have hu : ((x.upto.toNat : Nat) : Int) = x.upto := by have := ok.u0; omega
      rw [hu, ← hes, ← hcc]
    · rw [if_neg h2, if_neg h2]
      have hup : x.upto = 0 := ok.h2.resolve_left h2
      by_cases h3 : fHas x.kind = 3
      · rw [if_pos h3, if_pos h3]
        have hes : x.es = [] := ok.h1.resolve_left (by rw [h3]; decide)
        obtain ⟨c, h4, h5⟩ := clkTT_put x.c ok.c 5 (Nat.le_refl _) []
        rw [List.append_nil] at h4
        have hc : c = x.c := Clk.ext' fun j hj => h5 j hj
        rw [h4, hc]
        simp only
        rw [← hup, ← hes]
      · rw [if_neg h3, if_neg h3]
        have h1 : fHas x.kind = 1 := by
          rcases fHas_123 x.kind with h | h | h | h
          · exact absurd h ok.is
          · exact h
          · exact absurd h h2
          · exact absurd h h3
        have hcc : x.c = clk0 := ok.h3.resolve_left h3
        rw [if_pos h1]
        have h6 := evT_put x.es ok.es x.es.length (Nat.le_refl _) []
        rw [List.take_length, List.append_nil] at h6
        have hmost := ok.most
        have e5 : (UInt8.ofNat x.es.length).toNat = x.es.length := by rw [UInt8.toNat_ofNat']; omega
        have e6 : ((UInt8.ofNat x.es.length :: evsB x.es).getD 0 0).toNat = x.es.length := e5
        have e7 : (UInt8.ofNat x.es.length :: evsB x.es).drop 1 = evsB x.es := rfl
        rw [e6, e7, h6]
        simp only [Option.map_some]
        rw [← hup, ← hcc]
  unfold bodyT
  rw [hq]
  show bodyQ (x, [], true) = some x
  unfold bodyQ
  rw [hm]; rfl
theorem putF_len {x : Rec} (ok : FrOk x) : (putF x).length ≤ 1100 := by
  have h := bodyF_len ok
  have hv := vput_len10 (bodyF x).length (by omega)
  unfold putF
  rw [sealL_length, List.length_append]; omega
theorem takeF_put {x : Rec} (hm : frMay x = true) : takeF (putF x) = (x, 0) := by
  have ok := frMay_ok hm
  have hl := putF_len ok
  have h := bodyF_len ok
  unfold takeF
  rw [if_neg (by omega)]
  unfold putF
  rw [openL_seal]
  simp only
  rw [vtake_put _ (Nat.le_trans (vput_len 3 _ (by omega)) (by decide))]
  simp only [List.length_append, List.drop_left]
  rw [if_neg (by omega), bodyT_of hm]
theorem takeF_ok {b : List UInt8} (h : (takeF b).2 = 0) : b.length ≤ 2048 ∧ frMay (takeF b).1 = true ∧ putF (takeF b).1 = b := by
  unfold takeF at h ⊢
  split at h
  · cases h
  rename_i hlen
  rw [if_neg hlen]
  cases ho : openL b with
  | none => rw [ho] at h; cases h
  | some t =>
    rw [ho] at h
    simp only at h ⊢
    split at h
    · cases h
    rename_i hv
    rw [if_neg hv]
    have hv0 : (vtake t).2.2 = 0 := Decidable.byContradiction fun hh => hv (.inl hh)
    have hv1 : (vtake t).1 = t.length - (vtake t).2.1 := Decidable.byContradiction fun hh => hv (.inr hh)
    cases hb : bodyT (t.drop (vtake t).2.1) with
    | none => rw [hb] at h; cases h
    | some f =>
      simp only
      obtain ⟨h1, h2⟩ := bodyT_ok hb
      refine ⟨by omega, h1, ?_⟩
      obtain ⟨h3, h4, h5⟩ := vtake_split hv0
      unfold putF
      rw [h2, List.length_drop, ← hv1, ← h3]
      exact (openL_some ho).symm
theorem takeF_code (b : List UInt8) : (takeF b).2 = 0 ∨ (takeF b).1 = rec0 ∧ ((takeF b).2 = 5 ∨ (takeF b).2 = 4 ∨ (takeF b).2 = 3) := by
  unfold takeF
  split
  · exact .inr ⟨rfl, .inl rfl⟩
  · split
    · exact .inr ⟨rfl, .inr (.inl rfl)⟩
    · split
      · exact .inr ⟨rfl, .inr (.inr rfl)⟩
      · split
        · exact .inr ⟨rfl, .inr (.inr rfl)⟩
        · exact .inl rfl
end Go.Proofs.Ytgdbbaggkoillaa
