/- What is taken was put; what is cut is too short; how long it is: plain. -/
import Derived.Test.YtgdbbaggkoillaaM4
import Derived.Test.YtgdbbaggkoillaaM3
import Derived.Test.YtgdbbaggkoillaaM2
import Derived.Lib.AppendZeros
import Derived.Lib.SliceRun
import Derived.DeepKeys
namespace Go.Proofs.Ytgdbbaggkoillaa
open K

theorem tCtx_ok {r : Int} {s : List UInt8} (x : Ev) (hr : x.r = r) : ∀ i, i ≤ 5 → (tCtx r s 0 i).2.2 = 0 → (∀ j, j < i → (j : Int) ≠ r → x.c.get j = (tCtx r s 0 i).1.get j) →
    s = ctxB x i ++ (tCtx r s 0 i).2.1 ∧ ∀ j, j < i → (j : Int) ≠ r → 0 ≤ x.c.get j ∧ x.c.get j ≤ 1048576
  | 0, _, _, _ => ⟨rfl, fun j hj => absurd hj (by omega)⟩
  | i + 1, hi, h, hx => by
    have h1 : (tStep r i (tCtx r s 0 i)).2.2 = 0 := h
    have hx1 : ∀ j, j < i + 1 → (j : Int) ≠ r → x.c.get j = (tStep r i (tCtx r s 0 i)).1.get j := hx
    show s = ctxB x (i + 1) ++ (tStep r i (tCtx r s 0 i)).2.1 ∧ _
    have ih := tCtx_ok (s := s) x hr i (by omega)
    unfold tStep at h1 hx1 ⊢
    generalize tCtx r s 0 i = q at *
    rw [ctxB_succ, hr]
    by_cases hne : (i : Int) ≠ r
    · rw [if_pos hne] at h1 ⊢
      simp only [if_pos hne] at hx1 ⊢
      obtain ⟨he, m, hm, hm0, hm1, hs⟩ := tNum_ok (by decide) h1
      have hxi : x.c.get i = m := by
        rw [hx1 i (by omega) hne, Clk.get_set _ _ _ (by omega) (by omega), if_pos rfl, hm]
      obtain ⟨g1, g2⟩ := ih he (fun j hj hjr => by rw [hx1 j (by omega) hjr, Clk.get_set _ _ _ (by omega) (by omega), if_neg (by omega)])
      refine ⟨?_, fun j hj hjr => ?_⟩
      · rw [hxi, List.append_assoc, show ((m : Int)).toNat = m from rfl, ← hs]
        exact g1
      · by_cases hij : j = i
        · rw [hij, hxi]; exact ⟨by omega, hm1⟩
        · exact g2 j (by omega) hjr
    · rw [if_neg hne] at h1 ⊢
      simp only [if_neg hne] at hx1 ⊢
      obtain ⟨g1, g2⟩ := ih h1 (fun j hj hjr => hx1 j (by omega) hjr)
      refine ⟨by rw [List.append_nil]; exact g1, fun j hj hjr => g2 j ?_ hjr⟩
      have : j ≠ i := fun hh => hne (by rw [← hh]; exact hjr)
      omega

theorem ofNat_of {c : UInt8} {n : Int} (h : n = c.toNat) : UInt8.ofNat n.toNat = c := by rw [h]; simp
theorem takeS_ok {b : List UInt8} {z : Ev} {s : List UInt8} (h : takeS b = (z, s, 0)) :
    EvOk { z with c := z.c.set z.r.toNat (z.n - 1) } ∧ b = putE { z with c := z.c.set z.r.toNat (z.n - 1) } ++ s := by
  rw [takeS_f] at h
  have hz : ∀ {t : Ev × List UInt8 × Int} {e : Int}, t = (z, s, 0) → (e ≠ 0 → t.2.2 = e) → e = 0 := fun ht he => Classical.byContradiction fun hn => hn (by have := he hn; rw [ht] at this; exact this.symm)
  have e1 := hz h f1_s
  obtain ⟨_, k1, k2, c1, hb, hc1⟩ := tOne_ok e1
  unfold f1 at h
  have e2 := hz h f2_s
  obtain ⟨_, r1, r2, c2, hb2, hc2⟩ := tOne_ok e2
  unfold f2 at h
  have e3 := hz h f3_s
  obtain ⟨_, n, hn, n1, n2, hb3⟩ := tNum_ok (by decide) e3
  unfold f3 at h
  have e4 := hz h f4_s
  rw [e3] at h e4
  unfold f4 at h
  have e5 := hz h f5_s
  obtain ⟨_, m, hm, m1, m2, hb5⟩ := tNum_ok (by decide) e5
  unfold f5 at h
  have e6 := hz h f6_s
  obtain ⟨_, w1, w2, hb6⟩ := tWords_ok e6
  have hcx := fun x hr hx => tCtx_ok (r := (tOne 0 4 (tOne 1 5 b 0).2.1 (tOne 1 5 b 0).2.2).1) (s := (tNum 1 1048576 (tOne 0 4 (tOne 1 5 b 0).2.1 (tOne 1 5 b 0).2.2).2.1 (tOne 0 4 (tOne 1 5 b 0).2.1 (tOne 1 5 b 0).2.2).2.2).2.1) x hr 5 (Nat.le_refl _) e4 hx
  generalize tOne 1 5 b 0 = q1 at *
  obtain ⟨kd, s1, x1⟩ := q1
  dsimp only at *
  generalize tOne 0 4 s1 x1 = q2 at *
  obtain ⟨r, s2, x2⟩ := q2
  dsimp only at *
  generalize tNum 1 1048576 s2 x2 = q3 at *
  obtain ⟨nn, s3, x3⟩ := q3
  dsimp only at *
  generalize tCtx r s3 0 5 = q4 at *
  obtain ⟨cc, s4, x4⟩ := q4
  dsimp only at *
  generalize tNum 1 16777216 s4 x4 = q5 at *
  obtain ⟨hh, s5, x5⟩ := q5
  dsimp only at *
  generalize tWords 8 s5 x5 = q6 at *
  obtain ⟨key, s6, x6⟩ := q6
  dsimp only at *
  subst e6
  subst hn
  subst hm
  unfold f6 at h
  dsimp only at h
  have hfin : ∀ (lb : Int) (vl : List UInt8) (rest : List UInt8), keyOk key = true → 0 ≤ lb → lb < 2 → vl.length ≤ 12 → (2 < kd → 1 ≤ vl.length) → (kd ≤ 2 → lb = 0 ∧ vl = []) → s6 = (if 2 < kd then UInt8.ofNat lb.toNat :: (UInt8.ofNat vl.length :: vl) else []) ++ rest →
      EvOk ⟨r, n, cc.set r.toNat ((n : Int) - 1), m, kd, key, lb, vl⟩ ∧ b = putE ⟨r, n, cc.set r.toNat ((n : Int) - 1), m, kd, key, lb, vl⟩ ++ rest := by
    intro lb vl rest hko l0 l2 v12 v1 vb hs6
    obtain ⟨g1, g2⟩ := hcx ⟨r, n, cc.set r.toNat ((n : Int) - 1), m, kd, key, lb, vl⟩ rfl (fun j hj hjr => by
      show (cc.set r.toNat ((n : Int) - 1)).get j = cc.get j
      rw [Clk.get_set _ _ _ (by omega) hj, if_neg (by omega)])
    simp only [keyOk, Bool.and_eq_true, decide_eq_true_eq] at hko
    have hown : (cc.set r.toNat ((n : Int) - 1)).get r.toNat = (n : Int) - 1 := by rw [Clk.get_set _ _ _ (by omega) (by omega), if_pos rfl]
    refine ⟨⟨r1, by show r < 5; omega, by show 1 ≤ (n : Int); omega, by show (n : Int) ≤ 1048576; omega, hown, by show 1 ≤ (m : Int); omega, by show (m : Int) ≤ 16777216; omega, fun j hj => ?_, k1, by show kd ≤ 5; omega, hko.1.1, hko.1.2, hko.2, l0, l2, v12, v1, vb⟩, ?_⟩
    · show 0 ≤ (cc.set r.toNat ((n : Int) - 1)).get j ∧ (cc.set r.toNat ((n : Int) - 1)).get j ≤ 1048576
      by_cases hjr : (j : Int) ≠ r
      · exact g2 j hj hjr
      · have : j = r.toNat := by omega
        rw [this, hown]; omega
    · rw [putE_eq]
      simp only [List.cons_append, List.append_assoc]
      rw [ofNat_of hc1, ofNat_of hc2, hb, hb2, hb3, g1, hb5, hb6, hs6]
      simp only [List.cons_append, List.append_assoc]
      rfl
  by_cases hk2 : 2 < kd
  · rw [if_pos hk2] at h
    generalize hq7 : tOne 0 1 s6 (tKeyE key 0) = q7 at h
    obtain ⟨lb, s7, x7⟩ := q7
    dsimp only at h
    generalize hq8 : tWords 12 s7 x7 = q8 at h
    obtain ⟨vl, s8, x8⟩ := q8
    dsimp only at h
    simp only [Prod.mk.injEq] at h
    obtain ⟨hz1, hz2, hz3⟩ := h
    subst hz1; subst hz2; subst hz3
    have t8 := tWords_ok (most := 12) (s := s7) (e := x7) (by rw [hq8])
    rw [hq8] at t8
    dsimp only at t8
    obtain ⟨e8, v1, v2, hb8⟩ := t8
    subst e8
    have t7 := tOne_ok (low := 0) (high := 1) (s := s6) (e := tKeyE key 0) (by rw [hq7])
    rw [hq7] at t7
    dsimp only at t7
    obtain ⟨e7, l1, l2, c7, hb7, hc7⟩ := t7
    obtain ⟨_, hko⟩ := tKeyE_ok e7
    exact hfin lb vl s8 hko l1 (by omega) (by omega) (fun _ => v1) (fun hh => absurd hh (by omega)) (by
      rw [if_pos hk2, ofNat_of hc7, List.cons_append, hb7, hb8])
  · rw [if_neg hk2] at h
    simp only [Prod.mk.injEq] at h
    obtain ⟨hz1, hz2, hz3⟩ := h
    subst hz1
    obtain ⟨_, hko⟩ := tKeyE_ok hz3
    exact hfin 0 [] s hko (by decide) (by decide) (by decide) (fun hh => absurd hh hk2) (fun _ => ⟨rfl, rfl⟩) (by rw [if_neg hk2]; exact hz2)

/-! ### what is cut -/
theorem take_cut {α : Type} (p q : List α) (i : Nat) : (i < p.length ∧ (p ++ q).take i = p.take i) ∨ (p.length ≤ i ∧ (p ++ q).take i = p ++ q.take (i - p.length)) := by
  rcases Nat.lt_or_ge i p.length with h | h
  · exact .inl ⟨h, by rw [List.take_append_of_le_length (Nat.le_of_lt h)]⟩
  · refine .inr ⟨h, ?_⟩
    rw [List.take_append, List.take_of_length_le h]
theorem tOne_nil {l h : Int} : (tOne l h [] 0).2.2 = 2 := rfl
theorem tNum_cut {l h : Int} (n i : Nat) (hi : i < (vput n).length) (hn : (vput n).length ≤ 10) : (tNum l h ((vput n).take i) 0).2.2 = 2 := by
  unfold tNum
  rw [vtake_short n i hi hn, if_pos (.inr (by decide))]
  rfl
theorem tWords_nil {m : Int} : (tWords m [] 0).2.2 = 2 := by
  unfold tWords
  rw [if_pos (.inl (by rw [tOne_nil]; decide))]
  rfl
theorem tWords_cut {m : Int} (w : List UInt8) (h1 : 1 ≤ w.length) (hm : (w.length : Int) ≤ m) (h2 : w.length < 256) (i : Nat) (hi : i < w.length) : (tWords m (UInt8.ofNat w.length :: w.take i) 0).2.2 = 2 := by
  have e : tOne 1 m (UInt8.ofNat w.length :: w.take i) 0 = ((w.length : Int), w.take i, 0) := by
    have := tOne_put (l := 1) (h := m) (s := w.take i) (w.length : Int) (by omega) (by omega) (by omega) hm
    simpa using this
  unfold tWords
  rw [e, if_pos (.inr (by simp only [List.length_take]; omega))]
  rfl
theorem tCtx_cut (x : Ev) (hk : EvOk x) : ∀ (i : Nat), i ≤ 5 → ∀ j, j < (ctxB x i).length → (tCtx x.r ((ctxB x i).take j) 0 i).2.2 = 2
  | 0, _, j, hj => absurd hj (by simp [ctxB])
  | i + 1, hi, j, hj => by
    have hci := hk.c i (by omega)
    rw [ctxB_succ] at hj ⊢
    show (tStep x.r i (tCtx x.r _ 0 i)).2.2 = 2
    rcases take_cut (ctxB x i) (if (i : Int) ≠ x.r then vput (x.c.get i).toNat else []) j with ⟨h1, h2⟩ | ⟨h1, h2⟩
    · rw [h2]
      have ih := tCtx_cut x hk i (by omega) j h1
      unfold tStep
      split
      · show (tNum 0 1048576 (tCtx x.r _ 0 i).2.1 (tCtx x.r _ 0 i).2.2).2.2 = 2
        rw [ih]
        exact tNum_s (by decide)
      · exact ih
    · rw [h2]
      obtain ⟨c, g1, _⟩ := tCtx_put x hk i (by omega) ((if (i : Int) ≠ x.r then vput (x.c.get i).toNat else []).take (j - (ctxB x i).length))
      rw [g1]
      by_cases hne : (i : Int) ≠ x.r
      · rw [if_pos hne] at hj ⊢
        rw [List.length_append] at hj
        unfold tStep
        rw [if_pos hne]
        exact tNum_cut _ _ (by omega) (vput_len10 _ (by omega))
      · rw [if_neg hne, List.append_nil] at hj
        omega
def tailV (x : Ev) : List UInt8 := if 2 < x.kind then UInt8.ofNat x.label.toNat :: (UInt8.ofNat x.val.length :: x.val) else []
def tailK (x : Ev) : List UInt8 := UInt8.ofNat x.key.length :: (x.key ++ tailV x)
def tailH (x : Ev) : List UInt8 := vput x.h.toNat ++ tailK x
def tailC (x : Ev) : List UInt8 := ctxB x 5 ++ tailH x
theorem putE_tail (x : Ev) : putE x = UInt8.ofNat x.kind.toNat :: (UInt8.ofNat x.r.toNat :: (vput x.n.toNat ++ tailC x)) := by
  rw [putE_eq]; rfl
theorem takeS_cut (x : Ev) (hk : EvOk x) (i : Nat) (hi : i < (putE x).length) : (takeS ((putE x).take i)).2.2 = 2 := by
  have h1 := hk.k1; have h2 := hk.k5; have h3 := hk.r0; have h4 := hk.r5; have h5 := hk.n1; have h6 := hk.n2; have h7 := hk.h1; have h8 := hk.h2
  have hkey1 := hk.key1; have hkey8 := hk.key8
  rw [takeS_f]
  rw [putE_tail] at hi ⊢
  cases i with
  | zero => rw [List.take_zero, f1_s (by rw [tOne_nil]; decide)]; rfl
  | succ i =>
  rw [List.take_succ_cons, tOne_put x.kind (by omega) (by omega) (by omega) (by omega)]
  rw [List.length_cons] at hi
  unfold f1
  cases i with
  | zero => rw [List.take_zero]; exact (f2_s (by rw [tOne_nil]; decide)).trans rfl
  | succ i =>
  rw [List.take_succ_cons]
  simp only
  rw [tOne_put x.r (by omega) (by omega) (by omega) (by omega)]
  rw [List.length_cons] at hi
  unfold f2
  simp only
  rcases take_cut (vput x.n.toNat) (tailC x) i with ⟨g1, g2⟩ | ⟨g1, g2⟩
  · rw [g2]
    have := tNum_cut (l := 1) (h := 1048576) x.n.toNat i g1 (vput_len10 _ (by omega))
    rw [f3_s (by rw [this]; decide), this]
  rw [g2, tNum_put x.n (by omega) (by omega) (by omega) (by omega)]
  rw [List.length_append] at hi
  have hi2 : i - (vput x.n.toNat).length < (tailC x).length := by omega
  generalize i - (vput x.n.toNat).length = i2 at *
  unfold f3
  simp only
  unfold tailC at hi2 ⊢
  rcases take_cut (ctxB x 5) (tailH x) i2 with ⟨g3, g4⟩ | ⟨g3, g4⟩
  · rw [g4]
    have := tCtx_cut x hk 5 (Nat.le_refl _) i2 g3
    rw [f4_s (by rw [this]; decide), this]
  rw [g4]
  obtain ⟨c, hc1, _⟩ := tCtx_put x hk 5 (Nat.le_refl _) ((tailH x).take (i2 - (ctxB x 5).length))
  rw [hc1]
  rw [List.length_append] at hi2
  have hi3 : i2 - (ctxB x 5).length < (tailH x).length := by omega
  generalize i2 - (ctxB x 5).length = i3 at *
  unfold f4
  simp only
  unfold tailH at hi3 ⊢
  rcases take_cut (vput x.h.toNat) (tailK x) i3 with ⟨g5, g6⟩ | ⟨g5, g6⟩
  · rw [g6]
    have := tNum_cut (l := 1) (h := 16777216) x.h.toNat i3 g5 (vput_len10 _ (by omega))
    rw [f5_s (by rw [this]; decide), this]
  rw [g6, tNum_put x.h (by omega) (by omega) (by omega) (by omega)]
  rw [List.length_append] at hi3
  have hi4 : i3 - (vput x.h.toNat).length < (tailK x).length := by omega
  generalize i3 - (vput x.h.toNat).length = i4 at *
  unfold f5
  simp only
  unfold tailK at hi4 ⊢
  cases i4 with
  | zero =>
    rw [List.take_zero]
    have := tWords_nil (m := 8)
    rw [f6_s (by rw [this]; decide), this]
  | succ i4 =>
  rw [List.take_succ_cons]
  rw [List.length_cons] at hi4
  rcases take_cut x.key (tailV x) i4 with ⟨g7, g8⟩ | ⟨g7, g8⟩
  · rw [g8]
    have := tWords_cut (m := 8) x.key hkey1 (by omega) (by omega) i4 g7
    rw [f6_s (by rw [this]; decide), this]
  rw [g8]
  have hw := tWords_put (m := 8) (s := (tailV x).take (i4 - x.key.length)) x.key hkey1 (by omega) (by omega)
  rw [List.cons_append] at hw
  rw [hw]
  have hko : keyOk x.key = true := by simp only [keyOk, Bool.and_eq_true, decide_eq_true_eq]; exact ⟨⟨hkey1, hkey8⟩, hk.keya⟩
  have hke : tKeyE x.key 0 = 0 := if_pos hko
  rw [List.length_append] at hi4
  have hi5 : i4 - x.key.length < (tailV x).length := by omega
  generalize i4 - x.key.length = i5 at *
  unfold f6
  simp only [hke]
  unfold tailV at hi5 ⊢
  by_cases hz : 2 < x.kind
  · rw [if_pos hz] at hi5
    rw [if_pos hz, if_pos hz]
    have hv1 := hk.v1 hz; have hv12 := hk.v12; have hl0 := hk.l0; have hl2 := hk.l2
    cases i5 with
    | zero =>
      rw [List.take_zero]
      show (tWords 12 (tOne 0 1 [] 0).2.1 (tOne 0 1 [] 0).2.2).2.2 = 2
      rw [tOne_nil]
      exact tWords_s (by decide)
    | succ i5 =>
    rw [List.take_succ_cons, tOne_put x.label (by omega) (by omega) (by omega) (by omega)]
    rw [List.length_cons] at hi5
    simp only
    cases i5 with
    | zero => rw [List.take_zero]; exact tWords_nil
    | succ i5 =>
    rw [List.take_succ_cons]
    rw [List.length_cons] at hi5
    exact tWords_cut x.val hv1 (by omega) (by omega) i5 (by omega)
  · rw [if_neg hz] at hi5
    exact absurd hi5 (by simp)
theorem takeE_cut (x : Ev) (hk : EvOk x) (i : Nat) (hi : i < (putE x).length) : takeE ((putE x).take i) = (evZ, 0, 2) := by
  have h := takeS_cut x hk i hi
  unfold takeE takeFin
  rw [h, if_pos (by decide)]
/-- Of any bytes: an event's, or none's. -/
theorem takeE_any (b : List UInt8) : ((takeE b).2.2 = 0 ∧ EvOk (takeE b).1 ∧ (takeE b).2.1 = ((putE (takeE b).1).length : Int) ∧ (putE (takeE b).1).length ≤ b.length ∧ b.take (putE (takeE b).1).length = putE (takeE b).1) ∨
    ((takeE b).2.2 ≠ 0 ∧ (takeE b).1 = evZ ∧ (takeE b).2.1 = 0) := by
  by_cases h : (takeS b).2.2 = 0
  · left
    have e : takeS b = ((takeS b).1, (takeS b).2.1, 0) := by rw [← h]
    obtain ⟨h1, h2⟩ := takeS_ok e
    unfold takeE takeFin
    rw [h, if_neg (by simp)]
    generalize (takeS b).1 = z at *
    generalize (takeS b).2.1 = s at *
    simp only
    refine ⟨trivial, h1, ?_, ?_, ?_⟩
    · rw [h2, List.length_append]; omega
    · rw [h2, List.length_append]; omega
    · conv => lhs; rw [h2]
      simp
  · right
    unfold takeE takeFin
    rw [if_pos h]
    exact ⟨h, rfl, rfl⟩
theorem vput_len3 (n : Nat) (h : n < 2097152) : (vput n).length ≤ 3 := vput_len 2 n (by omega)
theorem vput_len4 (n : Nat) (h : n < 268435456) : (vput n).length ≤ 4 := vput_len 3 n (by omega)
theorem ctxB_len (x : Ev) (hk : EvOk x) : (ctxB x 5).length ≤ 12 := by
  have key : ∀ i, i ≤ 5 → (ctxB x i).length ≤ 3 * (if x.r < i then i - 1 else i) := by
    intro i
    induction i with
    | zero => intro _; simp [ctxB]
    | succ i ih =>
      intro hi
      have h1 := ih (by omega)
      have hci := hk.c i (by omega)
      have h2 := vput_len3 (x.c.get i).toNat (by omega)
      rw [ctxB_succ, List.length_append]
      have hr0 := hk.r0
      by_cases hne : (i : Int) ≠ x.r
      · rw [if_pos hne]
        split at h1 <;> split <;> omega
      · rw [if_neg hne]
        simp only [List.length_nil]
        split at h1 <;> split <;> omega
  have := key 5 (Nat.le_refl _)
  have hr5 := hk.r5
  rw [if_pos (by omega)] at this
  omega
theorem putE_le (x : Ev) (hk : EvOk x) : (putE x).length ≤ 44 := by
  have h1 := ctxB_len x hk
  have h5 := hk.n1; have h6 := hk.n2; have h7 := hk.h1; have h8 := hk.h2
  have h2 := vput_len3 x.n.toNat (by omega)
  have h3 := vput_len4 x.h.toNat (by omega)
  have h4 := hk.key8; have h9 := hk.v12
  rw [putE_tail]
  unfold tailC tailH tailK tailV
  simp only [List.length_cons, List.length_append]
  split <;> simp <;> omega
theorem putE_inj {x y : Ev} (hx : EvOk x) (hy : EvOk y) {s t : List UInt8} (h : putE x ++ s = putE y ++ t) : x = y := by
  have h1 := takeE_put x hx s
  rw [h, takeE_put y hy t] at h1
  exact (congrArg Prod.fst h1).symm
theorem putE_pre {x y : Ev} (hx : EvOk x) (hy : EvOk y) : decide ((putE x).take (min (putE x).length (putE y).length) = (putE y).take (min (putE x).length (putE y).length)) = decide (x = y) := by
  refine decide_eq_decide.2 ⟨fun h => ?_, fun h => by rw [h]⟩
  rcases Nat.le_total (putE x).length (putE y).length with hl | hl
  · rw [Nat.min_eq_left hl, List.take_length] at h
    refine putE_inj hx hy (s := (putE y).drop (putE x).length) (t := []) ?_
    conv => lhs; lhs; rw [h]
    rw [List.take_append_drop, List.append_nil]
  · rw [Nat.min_eq_right hl, List.take_length] at h
    refine putE_inj hx hy (s := []) (t := (putE x).drop (putE y).length) ?_
    conv => rhs; lhs; rw [← h]
    rw [List.take_append_drop, List.append_nil]
end Go.Proofs.Ytgdbbaggkoillaa
/- A number's digits, low first; plain. -/
namespace Go.Proofs.Ytgdbbaggkoillaa
open K
def vval : List UInt8 → Nat
  | [] => 0
  | c :: l => vval l * 128 + c.toNat % 128
theorem vval_put : ∀ n, vval (vput n) = n := by
  intro n
  induction n using Nat.strongRecOn with
  | _ n ih =>
    by_cases h : n < 128
    · rw [vput_low n h]
      show 0 * 128 + (UInt8.ofNat n).toNat % 128 = n
      rw [toNat_low n h]; omega
    · rw [vput_more n (by omega)]
      show vval (vput (n / 128)) * 128 + (UInt8.ofNat (n % 128 + 128)).toNat % 128 = n
      rw [ih (n / 128) (by omega), toNat_more]; omega
/-- Of a number's bytes all but the last have the high bit. -/
theorem vput_high : ∀ (n i : Nat), i + 1 < (vput n).length → 128 ≤ ((vput n).getD i 0).toNat := by
  intro n
  induction n using Nat.strongRecOn with
  | _ n ih =>
    intro i hi
    by_cases h : n < 128
    · rw [vput_low n h] at hi; simp at hi
    · rw [vput_more n (by omega)] at hi ⊢
      cases i with
      | zero => show 128 ≤ (UInt8.ofNat (n % 128 + 128)).toNat; rw [toNat_more]; omega
      | succ i => exact ih (n / 128) (by omega) i (by simpa using hi)
theorem vput_last : ∀ (n : Nat), ((vput n).getD ((vput n).length - 1) 0).toNat < 128 := by
  intro n
  induction n using Nat.strongRecOn with
  | _ n ih =>
    by_cases h : n < 128
    · rw [vput_low n h]; show (UInt8.ofNat n).toNat < 128; rw [toNat_low n h]; exact h
    · have hp := vput_pos (n / 128)
      rw [vput_more n (by omega), List.length_cons]
      have h1 : (vput (n / 128)).length + 1 - 1 = ((vput (n / 128)).length - 1) + 1 := by omega
      rw [h1]
      exact ih (n / 128) (by omega)
theorem vgo_put10 (rest : List UInt8) : ∀ (n i m : Nat), i + (vput n).length ≤ 10 → n * 128 ^ i < 2 ^ 64 → (i = 0 ∨ n ≠ 0) → vgo (vput n ++ rest) i m = (m + n * 128 ^ i, i + (vput n).length, 0) := by
  intro n
  induction n using Nat.strongRecOn with
  | _ n ih =>
    intro i m hl h64 h0
    by_cases h : n < 128
    · rw [vput_low n h] at hl ⊢
      have hl : i + 1 ≤ 10 := hl
      show (if 10 ≤ i then _ else _) = _
      rw [if_neg (by omega), toNat_low n h, if_neg (by omega), if_neg]
      · rfl
      · rintro (⟨h1, h2⟩ | ⟨h1, h2⟩)
        · omega
        · subst h1
          have : 2 * 128 ^ 9 ≤ n * 128 ^ 9 := Nat.mul_le_mul_right _ h2
          have h3 : (2 : Nat) * 128 ^ 9 = 2 ^ 64 := by decide
          omega
    · rw [vput_more n (by omega)] at hl ⊢
      rw [List.length_cons] at hl
      have hp := vput_pos (n / 128)
      have hs : n / 128 * 128 ^ (i + 1) ≤ n * 128 ^ i := by
        rw [Nat.pow_succ, Nat.mul_comm (128 ^ i) 128, ← Nat.mul_assoc]
        exact Nat.mul_le_mul_right _ (Nat.div_mul_le_self n 128)
      simp only [List.cons_append, vgo]
      rw [if_neg (by omega), toNat_more, if_pos (by omega), ih (n / 128) (by omega) (i + 1) _ (by omega) (by omega) (.inr (by omega))]
      have h1 : (n % 128 + 128) % 128 = n % 128 := by omega
      have h2 := pow_step n i
      rw [h1, List.length_cons]
      refine Prod.ext ?_ (Prod.ext ?_ rfl)
      · show m + n % 128 * 128 ^ i + n / 128 * 128 ^ (i + 1) = m + n * 128 ^ i
        omega
      · show i + 1 + (vput (n / 128)).length = i + ((vput (n / 128)).length + 1)
        omega
theorem vtake_put10 (n : Nat) (h : n < 2 ^ 64) (rest : List UInt8) : vtake (vput n ++ rest) = (n, (vput n).length, 0) := by
  have h1 := vgo_put10 rest n 0 0 (by have := vput_len10 n h; omega) (by simpa using h) (.inl rfl)
  unfold vtake
  rw [h1]
  simp
theorem vgo_lt : ∀ (l : List UInt8) (i m n k : Nat), vgo l i m = (n, k, 0) → m < 128 ^ i → i ≤ 9 → n < 2 ^ 64
  | [], i, m, n, k, h, _, _ => by
    unfold vgo at h
    split at h <;> cases h
  | c :: l, i, m, n, k, h, hm, hi => by
    rw [vgo, if_neg (by omega)] at h
    have hp : 128 ^ (i + 1) = 128 ^ i * 128 := Nat.pow_succ ..
    have hc := c.toNat_lt
    split at h
    · have h1 : m + c.toNat % 128 * 128 ^ i < 128 ^ (i + 1) := by
        have : c.toNat % 128 * 128 ^ i ≤ 127 * 128 ^ i := Nat.mul_le_mul_right _ (by omega)
        omega
      rcases Nat.lt_or_ge i 9 with h9 | h9
      · exact vgo_lt l (i + 1) _ n k h h1 (by omega)
      · have : i = 9 := by omega
        subst this
        rw [vgo10] at h; cases h
    · split at h
      · cases h
      · rename_i h2 h3
        injection h with h4 h5
        rw [← h4]
        rcases Nat.lt_or_ge i 9 with h9 | h9
        · have h6 : c.toNat * 128 ^ i ≤ 127 * 128 ^ i := Nat.mul_le_mul_right _ (by omega)
          have h7 : (128 : Nat) ^ (i + 1) ≤ 128 ^ 9 := Nat.pow_le_pow_right (by decide) (by omega)
          have h8 : (128 : Nat) ^ 9 < 2 ^ 64 := by decide
          omega
        · have : i = 9 := by omega
          subst this
          have h6 : c.toNat ≤ 1 := by
            rcases Nat.lt_or_ge 1 c.toNat with hx | hx
            · exact absurd (.inr ⟨rfl, hx⟩) h3
            · exact hx
          have h7 : c.toNat * 128 ^ 9 ≤ 1 * 128 ^ 9 := Nat.mul_le_mul_right _ h6
          have h8 : (128 : Nat) ^ 9 + 128 ^ 9 = 2 ^ 64 := by decide
          omega
theorem vtake_lt {b : List UInt8} {n k : Nat} (h : vtake b = (n, k, 0)) : n < 2 ^ 64 := vgo_lt b 0 0 n k h (by decide) (by decide)
/-- A number taken: its last byte is the first low one. -/
theorem vtake_first {b : List UInt8} {n k i : Nat} (h : vtake b = (n, k, 0)) (hi : i < b.length) (hh : ∀ j, j < i → 128 ≤ (b.getD j 0).toNat) (hlow : (b.getD i 0).toNat < 128) : k = i + 1 := by
  obtain ⟨h1, h2, h3, _⟩ := vtake_ok h
  have hp := vput_pos n
  have hg : ∀ j, j < k → b.getD j 0 = (vput n).getD j 0 := fun j hj => by
    rw [← h1]
    simp only [List.getD]
    rw [List.getElem?_take, if_pos hj]
  rcases Nat.lt_trichotomy i (k - 1) with hlt | heq | hgt
  · have h4 := vput_high n i (by omega)
    rw [← hg i (by omega)] at h4
    omega
  · omega
  · have h4 := vput_last n
    rw [← h2, ← hg (k - 1) (by omega)] at h4
    have := hh (k - 1) hgt
    omega
theorem vtake_none_high {b : List UInt8} (hh : ∀ j, j < min b.length 10 → 128 ≤ (b.getD j 0).toNat) : (vtake b).2.2 ≠ 0 := by
  intro h0
  have e : vtake b = ((vtake b).1, (vtake b).2.1, 0) := by rw [← h0]
  obtain ⟨h1, h2, h3, h4⟩ := vtake_ok e
  have hp := vput_pos (vtake b).1
  have h5 := vput_last (vtake b).1
  rw [← h2, ← h1] at h5
  have h6 := hh ((vtake b).2.1 - 1) (by omega)
  simp only [List.getD] at h5 h6
  rw [List.getElem?_take, if_pos (by omega)] at h5
  omega
end Go.Proofs.Ytgdbbaggkoillaa
/- varint.Take: the walk. -/
namespace Go.Proofs.Ytgdbbaggkoillaa
open K
set_option maxRecDepth 100000
set_option maxHeartbeats 4000000

/-- A slice whose bytes are these. -/
def Sl (w : World) (v : Value) (b : List UInt8) : Prop := ∃ a c, v = .slice a b.length c ∧ b.length ≤ c ∧ Cells w a (u8s b)
theorem nth_u8s (l : List UInt8) (i : Nat) (h : i < l.length) : nth (u8s l) ((i : Int).toNat * 1) = some (u8 (l.getD i 0)) := by
  rw [nth_eq]
  simp [u8s, List.getD, h]
theorem K.Cells.some {w : World} {a : Option Addr} {cs : List Value} (h : Cells w a cs) {j : Nat} {v : Value} (hj : nth cs j = some v) : a.isSome = true := by
  obtain ⟨ad, rfl, _⟩ := h j v hj
  rfl
theorem shl7 (x : Int) (i : Nat) (hi : i ≤ 9) : IntKind.u64.wrap (x * 2 ^ (min (7 * (i : Int)).toNat IntKind.u64.bits)) = IntKind.u64.wrap (x * 2 ^ (7 * i)) := by
  have : min (7 * (i : Int)).toNat IntKind.u64.bits = 7 * i := by show min (7 * (i : Int)).toNat 64 = 7 * i; omega
  rw [this]
theorem drop_get (b : List UInt8) (i : Nat) (h : i < b.length) : b.drop i = b.getD i 0 :: b.drop (i + 1) := by
  rw [List.drop_eq_getElem_cons h]
  simp [List.getD, h]

theorem c_vtake (b : List UInt8) (hb : b.length ≤ 4611686018427387904) (v : Value) (w : World) (hs : Sl w v b) : Cl Try.prog 42 #[v] w (fun r w' => r = .tuple #[.int .u64 (vtake b).1, .int .i64 (vtake b).2.1, .int .i64 (vtake b).2.2] ∧ Chg No w w') := by
  obtain ⟨a, c, rfl, hc, H⟩ := hs
  refine f_enter (args := [_]) Try.func42 rfl rfl ?_
  have mm := Mem.nil No w
  have hmin : (min (b.length : Int) 10) = ((min b.length 10 : Nat) : Int) := by omega
  refine c_sreg rfl ?_
  refine s1 (r_asi rfl) ?_
  refine s1 (r_asi rfl) ?_
  refine s1 (r_asi rfl) ?_
  refine wn ?_
  refine c_seq ?_
  refine c_sreg rfl ?_
  refine s1 (r_mvs rfl) ?_
  refine s1 (r_mvs rfl) ?_
  refine s1 (r_len rfl) ?_
  refine s1 (r_min2 rfl rfl) ?_
  refine s1 (r_slh rfl rfl (by omega) (by omega)) ?_
  refine s1 (r_len rfl) ?_
  refine s1 (r_mvi rfl) ?_
  refine wn ?_
  refine c_block ?_
  refine c_loop (fun k e w' => ∃ (i m : Nat), k + i = min b.length 10 ∧ e 0 = .slice a b.length c ∧ e 2 = .int .u64 m ∧ e 11 = .slice a (min b.length 10) c ∧ e 12 = .int .i64 (min b.length 10 : Nat) ∧ e 13 = .int .i64 i ∧ Mem w No w' [] ∧ (i ≤ 9 → m < 128 ^ i ∧ vgo (b.drop i) i m = vtake b) ∧ (i = 10 → vtake b = (0, 0, 3))) (min b.length 10) ?_ ?_
  · refine ⟨0, 0, rfl, rfl, rfl, ?_, ?_, rfl, mm, fun _ => ⟨by decide, rfl⟩, fun h => by cases h⟩
    · show Value.slice a (min (b.length : Int) 10).toNat c = _
      rw [hmin]; rfl
    · show Value.int .i64 (((min (b.length : Int) 10).toNat : Nat) : Int) = _
      rw [hmin]; rfl
  generalize hN : min b.length 10 = N at *
  clear mm
  rintro k e w' ⟨i, m, hki, h0, h2, h11, h12, h13, mm, hi9, hi10⟩
  refine c_sreg rfl ?_
  refine s1 (r_lt h13 h12) ?_
  refine wn ?_
  refine c_seq ?_
  refine c_cond rfl (fun h => (c_skip (t_n ?_))) (fun h => (c_exit (t_x (t_x (b_x (t_n ?_))))))
  · have hi : i < N := by simp at h; omega
    obtain ⟨hm, hv⟩ := hi9 (by omega)
    have hd := drop_get b i (by omega)
    clear h
    refine c_seq ?_
    refine c_block ?_
    refine c_sreg rfl ?_
    refine s1 (r_mvi h13) ?_
    refine s1 (r_ix h11 h13 (by omega) (by omega) (H.some (nth_u8s b i (by omega)))) ?_
    refine s1 (r_ldc rfl (mm.ro H) (nth_u8s b i (by omega))) ?_
    refine s1 (r_asi rfl) ?_
    refine s1 (r_asi rfl) ?_
    refine wn ?_
    generalize b.getD i 0 = x at *
    have hx := x.toNat_lt
    refine c_sreg rfl ?_
    refine s1 (r_mvi h2) ?_
    refine s1 (r_mvi rfl) ?_
    refine s1 (r_bnot rfl rfl (u8_clear x)) ?_
    refine s1 (r_cv rfl (wu64 (by omega) (by omega))) ?_
    refine s1 (r_mvi rfl) ?_
    refine s1 (r_mul rfl rfl (wi (by omega) (by omega))) ?_
    refine s1 (r_shl rfl rfl (by omega) (shl7 _ i (by omega))) ?_
    refine s1 (r_bor rfl rfl (or_shift m (x.toNat % 128) i hm (by omega))) ?_
    refine s1 (r_asi rfl) ?_
    refine wn ?_
    refine c_seq ?_
    refine c_sreg rfl ?_
    refine s1 (r_mvi rfl) ?_
    refine s1 (r_band rfl rfl rfl) ?_
    refine s1 (r_ne rfl rfl) ?_
    refine wn ?_
    refine c_cond rfl (fun h => (c_exit (t_x (b_x (t_n ?_))))) (fun h => (c_skip (t_n ?_)))
    · have hx2 : 128 ≤ x.toNat := (u8_top x).1 (by simpa using h)
      refine c_region rfl ?_
      refine s1 (r_add h13 rfl (wi (by omega) (by omega))) ?_
      refine s1 (r_mvi rfl) ?_
      refine wn (t_n ?_)
      refine ⟨k - 1, by omega, i + 1, _, by omega, h0, rfl, h11, h12, rfl, mm, ?_, ?_⟩
      · intro hi1
        have hp : 128 ^ i * 128 = 128 ^ (i + 1) := (Nat.pow_succ ..).symm
        have hp64 : 128 ^ (i + 1) ≤ 128 ^ 9 := Nat.pow_le_pow_right (by decide) hi1
        have hlt : x.toNat % 128 * 128 ^ i < 2 ^ 64 := by
          have : x.toNat % 128 * 128 ^ i ≤ 127 * 128 ^ i := Nat.mul_le_mul_right _ (by omega)
          omega
        rw [Nat.mod_eq_of_lt hlt]
        have h127 : x.toNat % 128 * 128 ^ i ≤ 127 * 128 ^ i := Nat.mul_le_mul_right _ (by omega)
        refine ⟨by omega, ?_⟩
        rw [← hv, hd]
        simp only [vgo]
        rw [if_neg (by omega), if_pos hx2]
      · intro hi1
        have : i = 9 := by omega
        subst this
        rw [← hv, hd]
        simp only [vgo]
        rw [if_neg (by omega), if_pos hx2]
        exact vgo10 _ _
    have hx2 : ¬ 128 ≤ x.toNat := fun hh => absurd ((u8_top x).2 hh) (by simpa using h)
    clear h
    refine c_seq ?_
    refine c_sreg rfl ?_
    refine s1 (r_mvi rfl) ?_
    refine s1 (r_eq rfl rfl) ?_
    refine s1 (r_mvb rfl) ?_
    refine sT rfl rfl (fun h => r_mvi rfl) ?_
    refine sT rfl rfl (fun h => r_gt (sel_t h :) rfl) ?_
    refine s1 (r_and rfl rfl) ?_
    refine s1 (r_mvb rfl) ?_
    refine sF rfl rfl (fun h => r_mvi rfl) ?_
    refine sF rfl rfl (fun h => r_eq (sel_t h :) rfl) ?_
    refine sF rfl rfl (fun h => r_mvb (sel_t h :)) ?_
    refine sTs rfl rfl (fun h => r_mvi rfl) ?_
    refine sTs rfl rfl (fun h => r_gt (sel_t h :) rfl) ?_
    refine sF rfl rfl (fun h => r_and (sel_t h :) (sel_and h :)) ?_
    refine s1 (r_or rfl rfl) ?_
    refine wn ?_
    have hv2 : vgo (b.drop i) i m = if (x.toNat = 0 ∧ 0 < i) ∨ (i = 9 ∧ 1 < x.toNat) then (0, 0, 3) else (m + x.toNat * 128 ^ i, i + 1, 0) := by
      rw [hd]
      simp only [vgo]
      rw [if_neg (by omega), if_neg hx2]
    rw [hv] at hv2
    refine c_cond rfl (fun h => ?_) (fun h => (c_skip (t_n ?_)))
    · have hq : (x.toNat = 0 ∧ 0 < i) ∨ (i = 9 ∧ 1 < x.toNat) := by
        simp at h
        omega
      rw [if_pos hq] at hv2
      refine c_sreg rfl ?_
      refine s1 (r_asi rfl) ?_
      refine s1 (r_asi rfl) ?_
      refine s1 (r_asi rfl) ?_
      refine wn ?_
      rw [hv2]
      exact c_ret (ret3 rfl rfl rfl rfl ⟨rfl, mm.chg⟩)
    have hq : ¬ ((x.toNat = 0 ∧ 0 < i) ∨ (i = 9 ∧ 1 < x.toNat)) := by
      simp at h
      omega
    rw [if_neg hq] at hv2
    have hlt : x.toNat % 128 * 128 ^ i % 2 ^ 64 = x.toNat * 128 ^ i := by
      rw [Nat.mod_eq_of_lt (show x.toNat < 128 by omega)]
      refine Nat.mod_eq_of_lt ?_
      by_cases h9 : i = 9
      · have : x.toNat * 128 ^ i ≤ 1 * 128 ^ i := Nat.mul_le_mul_right _ (by omega)
        rw [h9] at this ⊢
        omega
      · have h1 : x.toNat * 128 ^ i ≤ 127 * 128 ^ i := Nat.mul_le_mul_right _ (by omega)
        have h2 : 128 ^ i ≤ 128 ^ 8 := Nat.pow_le_pow_right (by decide) (by omega)
        omega
    refine c_sreg rfl ?_
    refine s1 (r_mvi rfl) ?_
    refine s1 (r_mvi rfl) ?_
    refine s1 (r_add rfl rfl (wi (by omega) (by omega))) ?_
    refine s1 (r_asi rfl) ?_
    refine s1 (r_asi rfl) ?_
    refine s1 (r_asi rfl) ?_
    refine wn ?_
    rw [hv2]
    refine c_ret (ret3 rfl rfl rfl rfl ⟨?_, mm.chg⟩)
    rw [← hlt]
    rfl
  have hi : i = N := by simp at h; omega
  clear h
  refine c_seq ?_
  refine c_sreg rfl ?_
  refine s1 (r_mvs h0) ?_
  refine s1 (r_len rfl) ?_
  refine s1 (r_ge rfl rfl) ?_
  refine wn ?_
  refine c_cond rfl (fun h => ?_) (fun h => (c_skip (t_n ?_)))
  · have hl : 10 ≤ b.length := by simp at h; omega
    rw [hi10 (by omega)]
    refine c_sreg rfl ?_
    refine s1 (r_asi rfl) ?_
    refine s1 (r_asi rfl) ?_
    refine s1 (r_asi rfl) ?_
    refine wn ?_
    exact c_ret (ret3 rfl rfl rfl rfl ⟨rfl, mm.chg⟩)
  have hl : ¬ 10 ≤ b.length := by simp at h; omega
  have hv : vtake b = (0, 0, 2) := by
    rw [← (hi9 (by omega)).2, List.drop_of_length_le (by omega)]
    simp only [vgo]
    rw [if_neg (by omega)]
  rw [hv]
  refine c_sreg rfl ?_
  refine s1 (r_asi rfl) ?_
  refine s1 (r_asi rfl) ?_
  refine s1 (r_asi rfl) ?_
  refine wn ?_
  exact c_ret (ret3 rfl rfl rfl rfl ⟨rfl, mm.chg⟩)
end Go.Proofs.Ytgdbbaggkoillaa
/- event.Take's closures: walks. -/
namespace Go.Proofs.Ytgdbbaggkoillaa
open K
set_option maxRecDepth 100000
set_option maxHeartbeats 4000000

theorem Sl.drop {w : World} {a : Option Addr} {c : Nat} {s : List UInt8} (H : Cells w a (u8s s)) (hc : s.length ≤ c) (l : Nat) (hl : l ≤ s.length) : Sl w (.slice (slA a c l 1) (s.length - l) (c - l)) (s.drop l) := by
  refine ⟨slA a c l 1, c - l, by rw [List.length_drop], by rw [List.length_drop]; omega, ?_⟩
  have := H.sl (n := s.length) (c := c) (sz := 1) (by rw [u8s_length]; omega) hc l
  rw [Nat.mul_one] at this
  unfold u8s at this ⊢
  rw [List.map_drop]
  exact this

def pE (b : Nat) : Value := .pointer (some ⟨b, 0, none⟩)
def fF (bE : Nat) : Value := .func (.func 50) #[] #[.pointer (some ⟨bE, 0, none⟩)]
def fO (bE bL bF : Nat) : Value := .func (.func 51) #[] #[.pointer (some ⟨bE, 0, none⟩), .pointer (some ⟨bL, 0, none⟩), .pointer (some ⟨bF, 0, none⟩)]
def tkL (bR bE bL bF bO : Nat) (cs : List Value) (e : Int) (v : Value) : List It :=
  [bk bR cs 25, bk bE [.int .i64 e] 29, bk bL [v] 28, bk bF [.func (.func 50) #[] #[.pointer (some ⟨bE, 0, none⟩)]] 81, bk bO [.func (.func 51) #[] #[.pointer (some ⟨bE, 0, none⟩), .pointer (some ⟨bL, 0, none⟩), .pointer (some ⟨bF, 0, none⟩)]] 82]
section
variable {w0 w : World} {bR bE bL bF bO : Nat} {cs : List Value} {er : Int} {v : Value} {s : List UInt8}
theorem c_tk1 (mm : Mem w0 No w (tkL bR bE bL bF bO cs er v)) (x : Int) : Cl Try.prog 50 #[.int .i64 x, .pointer (some ⟨bE, 0, none⟩)] w (fun r w' => r = .tuple #[] ∧ Mem w0 No w' (tkL bR bE bL bF bO cs (if er = 0 then x else er) v)) := by
  refine f_enter (args := [_, _]) Try.func50 rfl rfl ?_
  refine c_sreg rfl ?_
  refine s1 (r_ld rfl (mm.b 1 rfl) rfl) ?_
  refine s1 (r_eq rfl rfl) ?_
  refine wn ?_
  refine c_cond rfl (fun h => ?_) (fun h => (c_skip (body_n ?_)))
  · have hz : er = 0 := by simpa using h
    rw [if_pos hz]
    refine c_region rfl ?_
    refine s1 (r_mvi rfl) ?_
    refine ss (o_st mm 1 rfl rfl rfl rfl rfl fun w2 mm => ?_)
    refine wn (body_n ?_)
    exact ret0 rfl ⟨rfl, mm⟩
  have hz : ¬ er = 0 := by simpa using h
  rw [if_neg hz]
  exact ret0 rfl ⟨rfl, mm⟩

theorem c_tk2 (mm : Mem w0 No w (tkL bR bE bL bF bO cs er v)) (hs : Sl w0 v s) (hl : s.length ≤ 4611686018427387904) (low high : Int) : Cl Try.prog 51 #[.int .i64 low, .int .i64 high, .pointer (some ⟨bE, 0, none⟩), .pointer (some ⟨bL, 0, none⟩), .pointer (some ⟨bF, 0, none⟩)] w
    (fun r w' => ∃ v', r = .int .i64 (tOne low high s er).1 ∧ Mem w0 No w' (tkL bR bE bL bF bO cs (tOne low high s er).2.2 v') ∧ Sl w0 v' (tOne low high s er).2.1) := by
  obtain ⟨a, c, rfl, hc, H⟩ := hs
  refine f_enter (args := [_, _, _, _, _]) Try.func51 rfl rfl ?_
  refine c_sreg rfl ?_
  refine s1 (r_asi rfl) ?_
  refine wn ?_
  refine c_seq ?_
  refine c_sreg rfl ?_
  refine s1 (r_ld rfl (mm.b 1 rfl) rfl) ?_
  refine s1 (r_ne rfl rfl) ?_
  refine s1 (r_mvb rfl) ?_
  refine sF rfl rfl (fun h => r_ld rfl (mm.b 2 rfl) rfl) ?_
  refine sF rfl rfl (fun h => r_len (sel_t h :)) ?_
  refine sF rfl rfl (fun h => r_eq (sel_t h :) rfl) ?_
  refine s1 (r_or rfl rfl) ?_
  refine wn ?_
  refine c_cond rfl (fun h => ?_) (fun h => (c_skip (t_n ?_)))
  · have hq : er ≠ 0 ∨ s = [] := by
      simp at h
      rcases h with h | h
      · exact .inl h
      · exact .inr h
    have ht : tOne low high s er = (low, s, if er = 0 then 2 else er) := by
      unfold tOne
      rcases hq with hq | hq
      · rw [if_pos hq, if_neg hq]
      · by_cases he : er = 0
        · rw [if_neg (by simp [he]), if_pos he, hq]
        · rw [if_pos he, if_neg he]
    rw [ht]
    refine c_sreg rfl ?_
    refine s1 (r_ld rfl (mm.b 3 rfl) rfl) ?_
    refine so (o_f11 rfl rfl (c_tk1 mm 2) ?_)
    rintro _ w2 ⟨rfl, mm⟩
    refine wn ?_
    refine c_sreg rfl ?_
    refine s1 (r_mvi rfl) ?_
    refine s1 (r_asi rfl) ?_
    refine wn ?_
    exact c_ret (ret1 rfl rfl ⟨_, rfl, mm, a, c, rfl, hc, H⟩)
  have hq : er = 0 ∧ s ≠ [] := by
    simp at h
    exact h
  obtain ⟨rfl, hne⟩ := hq
  cases s with
  | nil => exact absurd rfl hne
  | cons x s =>
  have hx := x.toNat_lt
  have ht : tOne low high (x :: s) 0 = ((x.toNat : Int), s, if (x.toNat : Int) < low ∨ high < (x.toNat : Int) then 3 else 0) := rfl
  rw [ht]
  clear h
  refine c_sreg rfl ?_
  refine s1 (r_ld rfl (mm.b 2 rfl) rfl) ?_
  refine s1 (r_ix rfl rfl (by decide) (by simp) (H.some (j := 0) rfl)) ?_
  refine s1 (r_ldc rfl (mm.ro H) rfl) ?_
  refine s1 (r_cv rfl (wu8i x)) ?_
  refine s1 (r_asi rfl) ?_
  refine wn ?_
  refine c_sreg rfl ?_
  refine s1 (r_ld rfl (mm.b 2 rfl) rfl) ?_
  refine s1 (r_sll rfl rfl (by decide) (by simp; omega)) ?_
  refine ss (o_st mm 2 rfl rfl rfl rfl rfl fun w3 mm => ?_)
  refine wn ?_
  have hd := Sl.drop H hc 1 (by simp)
  refine c_seq ?_
  refine c_sreg rfl ?_
  refine s1 (r_mvi rfl) ?_
  refine s1 (r_mvi rfl) ?_
  refine s1 (r_lt rfl rfl) ?_
  refine s1 (r_mvb rfl) ?_
  refine sF rfl rfl (fun h => r_mvi rfl) ?_
  refine sF rfl rfl (fun h => r_mvi rfl) ?_
  refine sF rfl rfl (fun h => r_gt (sel_t h :) (sel_t h :)) ?_
  refine s1 (r_or rfl rfl) ?_
  refine wn ?_
  refine c_cond rfl (fun h => ?_) (fun h => (c_skip (t_n ?_)))
  · have hq : (x.toNat : Int) < low ∨ high < (x.toNat : Int) := by simp at h; exact h
    rw [if_pos hq]
    refine c_region rfl ?_
    refine s1 (r_ld rfl (mm.b 3 rfl) rfl) ?_
    refine so (o_f11 rfl rfl (c_tk1 mm 3) ?_)
    rintro _ w4 ⟨rfl, mm⟩
    refine wn (t_n ?_)
    refine c_sreg rfl ?_
    refine s1 (r_mvi rfl) ?_
    refine s1 (r_asi rfl) ?_
    refine wn ?_
    exact c_ret (ret1 rfl rfl ⟨_, rfl, mm, hd⟩)
  have hq : ¬ ((x.toNat : Int) < low ∨ high < (x.toNat : Int)) := by simp at h; omega
  rw [if_neg hq]
  refine c_sreg rfl ?_
  refine s1 (r_mvi rfl) ?_
  refine s1 (r_asi rfl) ?_
  refine wn ?_
  exact c_ret (ret1 rfl rfl ⟨_, rfl, mm, hd⟩)

theorem Sl.at {L : List It} (mm : Mem w0 No w L) (h : Sl w0 v s) : Sl w v s := by
  obtain ⟨a, c, rfl, hc, H⟩ := h
  exact ⟨a, c, rfl, hc, mm.ro H⟩
theorem c_tk3 (mm : Mem w0 No w (tkL bR bE bL bF bO cs er v)) (hs : Sl w0 v s) (hl : s.length ≤ 4611686018427387904) (low high : Int) (h0 : 0 ≤ low) (h1 : low ≤ 4611686018427387904) (h2 : 0 ≤ high) (h3 : high ≤ 4611686018427387904) : Cl Try.prog 52 #[.int .i64 low, .int .i64 high, .pointer (some ⟨bL, 0, none⟩), .pointer (some ⟨bE, 0, none⟩), .pointer (some ⟨bF, 0, none⟩)] w
    (fun r w' => ∃ v', r = .int .i64 (tNum low high s er).1 ∧ Mem w0 No w' (tkL bR bE bL bF bO cs (tNum low high s er).2.2 v') ∧ Sl w0 v' (tNum low high s er).2.1) := by
  have hs1 := hs
  obtain ⟨a, c, rfl, hac, H⟩ := hs
  have hve := vtake_err (b := s)
  refine f_enter (args := [_, _, _, _, _]) Try.func52 rfl rfl ?_
  refine c_sreg rfl ?_
  refine s1 (r_asi rfl) ?_
  refine wn ?_
  refine c_sreg rfl ?_
  refine s1 (r_ld rfl (mm.b 2 rfl) rfl) ?_
  refine so (o_c1 rfl (c_vtake s hl _ _ (Sl.at mm hs1)) ?_)
  rintro _ w2 ⟨rfl, hc⟩
  have mm := mm.frame hc
  refine s1 (r_mvu rfl) ?_
  refine s1 (r_exti rfl rfl) ?_
  refine s1 (r_exti rfl rfl) ?_
  refine s1 (r_exti rfl rfl) ?_
  refine s1 (r_asi rfl) ?_
  refine s1 (r_asi rfl) ?_
  refine s1 (r_asi rfl) ?_
  refine wn ?_
  generalize htk : vtake s = t at *
  obtain ⟨n, k, x⟩ := t
  dsimp only at *
  refine c_seq ?_
  refine c_sreg rfl ?_
  refine s1 (r_ld rfl (mm.b 1 rfl) rfl) ?_
  refine s1 (r_ne rfl rfl) ?_
  refine s1 (r_mvb rfl) ?_
  refine sF rfl rfl (fun h => r_mvi rfl) ?_
  refine sF rfl rfl (fun h => r_ne (sel_t h :) rfl) ?_
  refine s1 (r_or rfl rfl) ?_
  refine wn ?_
  refine c_cond rfl (fun h => ?_) (fun h => (c_skip (t_n ?_)))
  · have hq : er ≠ 0 ∨ x ≠ 0 := by simpa using h
    have ht : tNum low high s er = (low, s, if er = 0 then x else er) := by
      unfold tNum
      rw [htk, if_pos hq]
    rw [ht]
    refine c_sreg rfl ?_
    refine s1 (r_ld rfl (mm.b 3 rfl) rfl) ?_
    refine s1 (r_mvi rfl) ?_
    refine so (o_f11 rfl rfl (c_tk1 mm x) ?_)
    rintro _ w3 ⟨rfl, mm⟩
    refine wn ?_
    refine c_sreg rfl ?_
    refine s1 (r_mvi rfl) ?_
    refine s1 (r_asi rfl) ?_
    refine wn ?_
    exact c_ret (ret1 rfl rfl ⟨_, rfl, mm, a, c, rfl, hac, H⟩)
  have hq : er = 0 ∧ x = 0 := by simpa using h
  obtain ⟨rfl, rfl⟩ := hq
  have hk : 1 ≤ k ∧ k ≤ s.length := by
    rcases hve with hve | hve | hve
    · exact hve.2
    · cases hve
    · cases hve
  have ht : tNum low high s 0 = (IntKind.i64.wrap n, s.drop k, if (n : Int) < low ∨ high < (n : Int) then 3 else 0) := by
    unfold tNum
    rw [htk]
    exact if_neg (by simp)
  rw [ht]
  clear h
  have hd := Sl.drop H hac k hk.2
  refine c_sreg rfl ?_
  refine s1 (r_ld rfl (mm.b 2 rfl) rfl) ?_
  refine s1 (r_mvi rfl) ?_
  refine s1 (r_sll rfl rfl (by omega) (by omega)) ?_
  refine ss (o_st mm 2 rfl rfl rfl rfl rfl fun w4 mm => ?_)
  refine wn ?_
  refine c_seq ?_
  refine c_sreg rfl ?_
  refine s1 (r_mvi rfl) ?_
  refine s1 (r_mvi rfl) ?_
  refine s1 (r_cv rfl (wu64 (by omega) (by omega))) ?_
  refine s1 (r_lt rfl rfl) ?_
  refine s1 (r_mvb rfl) ?_
  refine sF rfl rfl (fun h => r_mvi rfl) ?_
  refine sF rfl rfl (fun h => r_mvi rfl) ?_
  refine sF rfl rfl (fun h => r_cv (sel_t h :) (wu64 (by omega) (by omega))) ?_
  refine sF rfl rfl (fun h => r_gt (sel_t h :) (sel_t h :)) ?_
  refine s1 (r_or rfl rfl) ?_
  refine wn ?_
  refine c_cond rfl (fun h => ?_) (fun h => (c_skip (t_n ?_)))
  · have hq : (n : Int) < low ∨ high < (n : Int) := by simpa using h
    rw [if_pos hq]
    refine c_region rfl ?_
    refine s1 (r_ld rfl (mm.b 3 rfl) rfl) ?_
    refine so (o_f11 rfl rfl (c_tk1 mm 3) ?_)
    rintro _ w5 ⟨rfl, mm⟩
    refine wn (t_n ?_)
    refine c_sreg rfl ?_
    refine s1 (r_mvi rfl) ?_
    refine s1 (r_cv rfl rfl) ?_
    refine s1 (r_asi rfl) ?_
    refine wn ?_
    exact c_ret (ret1 rfl rfl ⟨_, rfl, mm, hd⟩)
  have hq : ¬ ((n : Int) < low ∨ high < (n : Int)) := by simpa using h
  rw [if_neg hq]
  refine c_sreg rfl ?_
  refine s1 (r_mvi rfl) ?_
  refine s1 (r_cv rfl rfl) ?_
  refine s1 (r_asi rfl) ?_
  refine wn ?_
  exact c_ret (ret1 rfl rfl ⟨_, rfl, mm, hd⟩)

theorem K.Cells.takeb {a : Option Addr} {s : List UInt8} (h : Cells w a (u8s s)) (n : Nat) : Cells w a (u8s (s.take n)) := by
  have := h.take n
  unfold u8s at this ⊢
  rw [List.map_take]
  exact this
theorem c_tk4 (mm : Mem w0 No w (tkL bR bE bL bF bO cs er v)) (hs : Sl w0 v s) (hl : s.length ≤ 4611686018427387904) (most : Int) : Cl Try.prog 53 #[.int .i64 most, .pointer (some ⟨bO, 0, none⟩), .pointer (some ⟨bE, 0, none⟩), .pointer (some ⟨bL, 0, none⟩), .pointer (some ⟨bF, 0, none⟩)] w
    (fun r w' => ∃ v', r = str (tWords most s er).1 ∧ Mem w0 No w' (tkL bR bE bL bF bO cs (tWords most s er).2.2 v') ∧ Sl w0 v' (tWords most s er).2.1) := by
  refine f_enter (args := [_, _, _, _, _]) Try.func53 rfl rfl ?_
  have hok := @tOne_ok 1 most s er
  have hle := @tOne_le 1 most s er
  refine c_sreg rfl ?_
  refine s1 (r_ast rfl) ?_
  refine wn ?_
  refine c_sreg rfl ?_
  refine s1 (r_ld rfl (mm.b 4 rfl) rfl) ?_
  refine s1 (r_mvi rfl) ?_
  refine so (o_f23 rfl rfl rfl (c_tk2 mm hs hl 1 most) ?_)
  rintro _ w2 ⟨v2, rfl, mm, hs2⟩
  refine s1 (r_asi rfl) ?_
  refine wn ?_
  generalize htk : tOne 1 most s er = t at *
  obtain ⟨n, s', e'⟩ := t
  dsimp only at *
  obtain ⟨a, c, rfl, hac, H⟩ := hs2
  refine c_seq ?_
  refine c_sreg rfl ?_
  refine s1 (r_ld rfl (mm.b 1 rfl) rfl) ?_
  refine s1 (r_ne rfl rfl) ?_
  refine s1 (r_mvb rfl) ?_
  refine sF rfl rfl (fun h => r_ld rfl (mm.b 2 rfl) rfl) ?_
  refine sF rfl rfl (fun h => r_len (sel_t h :)) ?_
  refine sF rfl rfl (fun h => r_mvi rfl) ?_
  refine sF rfl rfl (fun h => r_lt (sel_t h :) (sel_t h :)) ?_
  refine s1 (r_or rfl rfl) ?_
  refine wn ?_
  refine c_cond rfl (fun h => ?_) (fun h => (c_skip (t_n ?_)))
  · have hq : e' ≠ 0 ∨ (s'.length : Int) < n := by simpa using h
    have ht : tWords most s er = ([], s', if e' = 0 then 2 else e') := by
      unfold tWords
      rw [htk, if_pos hq]
    rw [ht]
    refine c_sreg rfl ?_
    refine s1 (r_ld rfl (mm.b 3 rfl) rfl) ?_
    refine so (o_f11 rfl rfl (c_tk1 mm 2) ?_)
    rintro _ w3 ⟨rfl, mm⟩
    refine wn ?_
    refine c_sreg rfl ?_
    refine s1 (r_ast rfl) ?_
    refine wn ?_
    exact c_ret (ret1 rfl rfl ⟨_, rfl, mm, a, c, rfl, hac, H⟩)
  have hq : e' = 0 ∧ ¬ (s'.length : Int) < n := by simpa using h
  obtain ⟨rfl, hq⟩ := hq
  have hn := hok rfl
  have ht : tWords most s er = (s'.take n.toNat, s'.drop n.toNat, 0) := by
    unfold tWords
    rw [htk]
    exact if_neg (by simp; omega)
  rw [ht]
  clear h
  have hd := Sl.drop H hac n.toNat (by omega)
  refine c_sreg rfl ?_
  refine s1 (r_ld rfl (mm.b 2 rfl) rfl) ?_
  refine s1 (r_mvi rfl) ?_
  refine s1 (r_slh rfl rfl (by omega) (by omega)) ?_
  refine s1 (r_b2s rfl (mm.ro (H.takeb n.toNat)) (by rw [List.length_take]; omega)) ?_
  refine s1 (r_ast rfl) ?_
  refine wn ?_
  refine c_sreg rfl ?_
  refine s1 (r_ld rfl (mm.b 2 rfl) rfl) ?_
  refine s1 (r_mvi rfl) ?_
  refine s1 (r_sll rfl rfl (by omega) (by omega)) ?_
  refine ss (o_st mm 2 rfl rfl rfl rfl rfl fun w4 mm => ?_)
  refine wn ?_
  refine c_sreg rfl ?_
  refine s1 (r_mvt rfl) ?_
  refine s1 (r_ast rfl) ?_
  refine wn ?_
  exact c_ret (ret1 rfl rfl ⟨_, rfl, mm, hd⟩)
end
end Go.Proofs.Ytgdbbaggkoillaa
/- The walk's own small logic, eighth part: rows of structs, arrays as slices, zeros appended, more comparisons. -/
namespace Go.Proofs.Ytgdbbaggkoillaa
namespace K

section
variable {P : Program} {e : Env} {w : World} {d : Option Nat} {ty : Nat} {pos : String} {af : Array Edge} {g : Option (Nat × Bool)} {K : Value → World → Prop}
variable {w0 : World} {F0 : Nat → Prop} {L : List It}

/-- A struct loaded from a row, its cells known. -/
theorem r_ldce {t j n : Nat} {x : Operand} {a : Option Addr} {cs ds : List Value} [h : Ag P t n] (hx : ev e x = .pointer (a.map (·.add j))) (hc : Cells w a cs) (hd : seg cs j n = ds) (hl : j + n ≤ cs.length) (h0 : 0 < n) :
    (execOp (ev e) ⟨d, .load t x, ty, pos, af, g⟩).run P w = .ok (.value (.agg ds.toArray)) w := by subst hd; exact r_ldca hx hc hl h0
/-- A row's load of a field of one cell, its cell known. -/
theorem r_ldcv {t j : Nat} {x : Operand} {a : Option Addr} {cs : List Value} {v : Value} [h : Sc P t] (hx : ev e x = .pointer (a.map (·.add j))) (hc : Cells w a cs) (hv : nth cs j = some v) :
    (execOp (ev e) ⟨d, .load t x, ty, pos, af, g⟩).run P w = .ok (.value v) w := r_ldc hx hc hv
/-- A whole array as a slice. -/
theorem r_sarr {t el n b : Nat} {x : Operand} [h : TArr P t n el] {sz by_ : Nat} {z : List Value} [he : El P el sz by_ z] (hx : ev e x = .pointer (some ⟨b, 0, none⟩)) :
    (execOp (ev e) ⟨d, .slice t x none none none, ty, pos, af, g⟩).run P w = .ok (.value (.slice (some ⟨b, 0, none⟩) n n)) w := by
  obtain ⟨i, zv, hi, hsz, _⟩ := he.h
  simp only [execOp, hx, Option.map_none, Instr.sliceAt, Sem.run_bind, run_underlying h.h, Result.andThen_ok, Instr.sureAddr, Instr.sliceBounds, Sem.run_pure, sizeOf, typeInfo, run_program, hi, Nat.zero_mul, Nat.sub_zero]
  have : (⟨b, 0, none⟩ : Addr).add 0 = ⟨b, 0, none⟩ := rfl
  rw [this]
  simp
/-- A slice as an array's address. -/
theorem r_s2a {t el n m c : Nat} {x : Operand} {a : Option Addr} [h : TArr P t n el] (hx : ev e x = .slice a m c) (hm : n ≤ m) :
    (execOp (ev e) ⟨d, .sliceToArrayPointer t x, ty, pos, af, g⟩).run P w = .ok (.value (.pointer (a.map (·.add 0)))) w := by
  have : ¬ (m < n) := by omega
  simp [execOp, hx, Instr.arrayAt, run_underlying h.h, this, opt_add0]
theorem r_cap {x : Operand} {t el : Nat} {a : Option Addr} {n c : Nat} [h : TSl P t el] (hx : ev e x = .slice a n c) : (execOp (ev e) ⟨d, .call ⟨.builtin .cap, #[x], #[t]⟩, ty, pos, af, g⟩).run P w = .ok (.value (.int .i64 c)) w := by
  have e1 : (#[x] : Array Operand).map (ev e) = #[.slice a n c] := by simp [hx]
  rw [x_builtin, e1]
  unfold builtin
  simp [Builtin.cap_, run_underlying h.h, goInt]
theorem r_snil {t t' el n c : Nat} {x y : Operand} {a : Option Addr} [h : TSl P t el] (hx : ev e x = .slice a n c) (hy : ev e y = .slice none 0 0) : (execOp (ev e) ⟨d, .binOp .eql t x y t', ty, pos, af, g⟩).run P w = .ok (.value (.bool a.isNone)) w := by
  have h1 := Lib.run_eql_slice_nil (P := P) w t el a n c 0 0 h.h
  simp only [execOp, hx, hy, eqGuard, Sem.run_bind]
  simp [h1]
/-- Zeros, behind nothing. -/
theorem o_apz {t t' el sz by_ n : Nat} {x y : Operand} {z : List Value} {kn : IntKind} [ht : TSl P t el] [hi' : TInt P t' kn] [he : El P el sz by_ z] (mm : Mem w0 F0 w L) (hx : ev e x = .slice none 0 0) (hy : ev e y = .int .i64 n) (h0 : 0 < n) (hm : n ≤ maxLen) (hb : n * by_ ≤ 140737488355328)
    (hK : ∀ a c w', Mem w0 F0 w' (L ++ [own el sz a 0 c []]) → n ≤ c → K (.slice a n c) w') :
    OwpE P ⟨d, .call ⟨.builtin .append, #[x, y], #[t, t']⟩, ty, pos, af, g⟩ e w K := by
  obtain ⟨i, zv, hi, hsz, hby, hz, hzc, hzl, hs0⟩ := he.h
  subst hsz; subst hby
  have h63 : (n : Int) ≤ 9223372036854775807 := by simp only [maxLen] at hm; omega
  have hr := Lib.run_append_nil_zeros (P := P) w t t' ty el i zv .i64 kn ht.h hi'.h hi hz n h0 hs0 h63 (by omega)
  have e1 : (#[x, y] : Array Operand).map (ev e) = #[.slice none 0 0, .int .i64 n] := by simp [hx, hy]
  have hge := grownCap_ge w n 0 el
  have hcm := grownCap_le_maxLen w n 0 el hm
  have hzs : zv.cells.size = i.size := by rw [hzc]; simpa using hzl
  unfold OwpE
  rw [x_builtin, e1]
  unfold builtin
  simp only [Sem.run_bind, hr, Result.andThen_ok, Sem.run_pure]
  refine hK _ _ _ (mm.add ((Chg.drawn No w _).trans (Chg.alloc No w.drew _)) ⟨by simp, .inr ⟨w.heap.size, _, _, rfl, Nat.zero_le _, heap_alloc_new w.drew _, Nat.zero_le _, hcm, ?_, by simp⟩⟩ (fun b hb => ?_)) hge
  · simp only [Array.size_append, size_zeroCells, hzs, ← Nat.add_mul]
    congr 1
    omega
  · simp only [own, Option.map_some, Option.some.injEq] at hb
    omega
end
theorem Mem.cst1 {w0 w : World} {F0 : Nat → Prop} {T : TypeId} {sz n n' c : Nat} {a : Option Addr} {cs cs' : List Value} (h : Mem w0 F0 w [own T sz a n c cs]) (hn : n = n') (hc : cs = cs') : Mem w0 F0 w [own T sz a n' c cs'] := by subst hn; subst hc; exact h
/-! arrays of bytes compared -/
section
variable {P : Program} {e : Env} {w : World} {d : Option Nat} {ty : Nat} {pos : String} {af : Array Edge} {g : Option (Nat × Bool)}
theorem run_eqa {t m D : Nat} {cs ds : List Value} {la lb : List Lit} {p : Prop} [Decidable p] (hk : P.keyTypeAt m t = true) (hm : m ≤ 10000)
    (fa : (Value.agg cs.toArray).formed P t = true) (fb : (Value.agg ds.toArray).formed P t = true) (ka : P.keyLits D t cs = some la) (kb : P.keyLits D t ds = some lb) (hp : (la = lb) ↔ p) :
    (Op.equalIn 10000 t (.agg cs.toArray) (.agg ds.toArray)).run P w = .ok (decide p) w := by
  obtain ⟨r, hr, hiff⟩ := run_equalIn_deep (10000 - m) m t hk w D D _ _ la lb fa fb ka kb
  rw [show 10000 - m + m = 10000 from by omega] at hr
  have : r = decide p := by
    cases r with
    | true => exact (decide_eq_true (hp.1 (hiff.1 rfl))).symm
    | false => exact (decide_eq_false (fun hq => by have := hiff.2 (hp.2 hq); cases this)).symm
  rw [hr, this]
theorem r_eqa {t t' : Nat} {cs ds : List Value} {x y : Operand} {b : Bool} (hg : P.eqGuardType P.depth t = false) (he : ∀ w, (Op.equalIn 10000 t (.agg cs.toArray) (.agg ds.toArray)).run P w = .ok b w) (hx : ev e x = .agg cs.toArray) (hy : ev e y = .agg ds.toArray) :
    (execOp (ev e) ⟨d, .binOp .eql t x y t', ty, pos, af, g⟩).run P w = .ok (.value (.bool b)) w := by
  have h1 := run_eqGuard_agg (P := P) w .eql t x y cs.toArray ds.toArray hg
  have h2 := run_eql_struct (P := P) w t cs.toArray ds.toArray
  rw [he w] at h2
  simp only [execOp, hx, hy, Sem.run_bind, h1, Result.andThen_ok, h2, Sem.run_pure]
theorem r_nea {t t' : Nat} {cs ds : List Value} {x y : Operand} {b : Bool} (hg : P.eqGuardType P.depth t = false) (he : ∀ w, (Op.equalIn 10000 t (.agg cs.toArray) (.agg ds.toArray)).run P w = .ok b w) (hx : ev e x = .agg cs.toArray) (hy : ev e y = .agg ds.toArray) :
    (execOp (ev e) ⟨d, .binOp .neq t x y t', ty, pos, af, g⟩).run P w = .ok (.value (.bool (!b))) w := by
  have h1 := run_eqGuard_agg (P := P) w .neq t x y cs.toArray ds.toArray hg
  have h2 := run_neq_struct (P := P) w t cs.toArray ds.toArray
  rw [he w] at h2
  simp only [execOp, hx, hy, Sem.run_bind, h1, Result.andThen_ok, h2, Sem.run_pure]
end
end K
end Go.Proofs.Ytgdbbaggkoillaa
