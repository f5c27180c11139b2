/- What is taken was put; what is cut is too short; how long it is: plain. -/
import Derived.Test.YtgdbbaggkoillaaTq
namespace Go.Proofs.Ytgdbbaggkoillaa
open K

theorem tCtx_ok {r : Int} {s : List UInt8} (x : Ev) (hr : x.r = r) : ∀ i, i ≤ 5 → (tCtx r s 0 i).2.2 = 0 → (∀ j, j < i → (j : Int) ≠ r → x.c.get j = (tCtx r s 0 i).1.get j) →
    s = ctxB x i ++ (tCtx r s 0 i).2.1 ∧ ∀ j, j < i → (j : Int) ≠ r → 0 ≤ x.c.get j ∧ x.c.get j ≤ 1048576
  | 0, _, _, _ => ⟨rfl, fun j hj => absurd hj (by omega)⟩
  | i + 1, hi, h, hx => by
    have h1 : (tStep r i (tCtx r s 0 i)).2.2 = 0 := h
    have hx1 : ∀ j, j < i + 1 → (j : Int) ≠ r → x.c.get j = (tStep r i (tCtx r s 0 i)).1.get j := hx
    show s = ctxB x (i + 1) ++ (tStep r i (tCtx r s 0 i)).2.1 ∧ _
    have ih := tCtx_ok (s := s) x hr i (by omega)
    unfold tStep at h1 hx1 ⊢
    generalize tCtx r s 0 i = q at *
    rw [ctxB_succ, hr]
    by_cases hne : (i : Int) ≠ r
    · rw [if_pos hne] at h1 ⊢
      simp only [if_pos hne] at hx1 ⊢
      obtain ⟨he, m, hm, hm0, hm1, hs⟩ := tNum_ok (by decide) h1
      have hxi : x.c.get i = m := by
        rw [hx1 i (by omega) hne, Clk.get_set _ _ _ (by omega) (by omega), if_pos rfl, hm]
      obtain ⟨g1, g2⟩ := ih he (fun j hj hjr => by rw [hx1 j (by omega) hjr, Clk.get_set _ _ _ (by omega) (by omega), if_neg (by omega)])
      refine ⟨?_, fun j hj hjr => ?_⟩
      · rw [hxi, List.append_assoc, show ((m : Int)).toNat = m from rfl, ← hs]
        exact g1
      · by_cases hij : j = i
        · rw [hij, hxi]; exact ⟨by omega, hm1⟩
        · exact g2 j (by omega) hjr
    · rw [if_neg hne] at h1 ⊢
      simp only [if_neg hne] at hx1 ⊢
      obtain ⟨g1, g2⟩ := ih h1 (fun j hj hjr => hx1 j (by omega) hjr)
      refine ⟨by rw [List.append_nil]; exact g1, fun j hj hjr => g2 j ?_ hjr⟩
      have : j ≠ i := fun hh => hne (by rw [← hh]; exact hjr)
      omega

theorem ofNat_of {c : UInt8} {n : Int} (h : n = c.toNat) : UInt8.ofNat n.toNat = c := by rw [h]; simp
theorem takeS_ok {b : List UInt8} {z : Ev} {s : List UInt8} (h : takeS b = (z, s, 0)) :
    EvOk { z with c := z.c.set z.r.toNat (z.n - 1) } ∧ b = putE { z with c := z.c.set z.r.toNat (z.n - 1) } ++ s := by
  rw [takeS_f] at h
  have hz : ∀ {t : Ev × List UInt8 × Int} {e : Int}, t = (z, s, 0) → (e ≠ 0 → t.2.2 = e) → e = 0 := fun ht he => Classical.byContradiction fun hn => hn (by have := he hn; rw [ht] at this; exact this.symm)
  have e1 := hz h f1_s
  obtain ⟨_, k1, k2, c1, hb, hc1⟩ := tOne_ok e1
  unfold f1 at h
  have e2 := hz h f2_s
  obtain ⟨_, r1, r2, c2, hb2, hc2⟩ := tOne_ok e2
  unfold f2 at h
  have e3 := hz h f3_s
  obtain ⟨_, n, hn, n1, n2, hb3⟩ := tNum_ok (by decide) e3
  unfold f3 at h
  have e4 := hz h f4_s
  rw [e3] at h e4
  unfold f4 at h
  have e5 := hz h f5_s
  obtain ⟨_, m, hm, m1, m2, hb5⟩ := tNum_ok (by decide) e5
  unfold f5 at h
  have e6 := hz h f6_s
  obtain ⟨_, w1, w2, hb6⟩ := tWords_ok e6
  have hcx := fun x hr hx => tCtx_ok (r := (tOne 0 4 (tOne 1 5 b 0).2.1 (tOne 1 5 b 0).2.2).1) (s := (tNum 1 1048576 (tOne 0 4 (tOne 1 5 b 0).2.1 (tOne 1 5 b 0).2.2).2.1 (tOne 0 4 (tOne 1 5 b 0).2.1 (tOne 1 5 b 0).2.2).2.2).2.1) x hr 5 (Nat.le_refl _) e4 hx
  generalize tOne 1 5 b 0 = q1 at *
  obtain ⟨kd, s1, x1⟩ := q1
  dsimp only at *
  generalize tOne 0 4 s1 x1 = q2 at *
  obtain ⟨r, s2, x2⟩ := q2
  dsimp only at *
  generalize tNum 1 1048576 s2 x2 = q3 at *
  obtain ⟨nn, s3, x3⟩ := q3
  dsimp only at *
  generalize tCtx r s3 0 5 = q4 at *
  obtain ⟨cc, s4, x4⟩ := q4
  dsimp only at *
  generalize tNum 1 16777216 s4 x4 = q5 at *
  obtain ⟨hh, s5, x5⟩ := q5
  dsimp only at *
  generalize tWords 8 s5 x5 = q6 at *
  obtain ⟨key, s6, x6⟩ := q6
  dsimp only at *
  subst e6
  subst hn
  subst hm
  unfold f6 at h
  dsimp only at h
  have hfin : ∀ (lb : Int) (vl : List UInt8) (rest : List UInt8), keyOk key = true → 0 ≤ lb → lb < 2 → vl.length ≤ 12 → (2 < kd → 1 ≤ vl.length) → (kd ≤ 2 → lb = 0 ∧ vl = []) → s6 = (if 2 < kd then UInt8.ofNat lb.toNat :: (UInt8.ofNat vl.length :: vl) else []) ++ rest →
      EvOk ⟨r, n, cc.set r.toNat ((n : Int) - 1), m, kd, key, lb, vl⟩ ∧ b = putE ⟨r, n, cc.set r.toNat ((n : Int) - 1), m, kd, key, lb, vl⟩ ++ rest := by
    intro lb vl rest hko l0 l2 v12 v1 vb hs6
    obtain ⟨g1, g2⟩ := hcx ⟨r, n, cc.set r.toNat ((n : Int) - 1), m, kd, key, lb, vl⟩ rfl (fun j hj hjr => by
      show (cc.set r.toNat ((n : Int) - 1)).get j = cc.get j
      rw [Clk.get_set _ _ _ (by omega) hj, if_neg (by omega)])
    simp only [keyOk, Bool.and_eq_true, decide_eq_true_eq] at hko
    have hown : (cc.set r.toNat ((n : Int) - 1)).get r.toNat = (n : Int) - 1 := by rw [Clk.get_set _ _ _ (by omega) (by omega), if_pos rfl]
    refine ⟨⟨r1, by show r < 5; omega, by show 1 ≤ (n : Int); omega, by show (n : Int) ≤ 1048576; omega, hown, by show 1 ≤ (m : Int); omega, by show (m : Int) ≤ 16777216; omega, fun j hj => ?_, k1, by show kd ≤ 5; omega, hko.1.1, hko.1.2, hko.2, l0, l2, v12, v1, vb⟩, ?_⟩
    · show 0 ≤ (cc.set r.toNat ((n : Int) - 1)).get j ∧ (cc.set r.toNat ((n : Int) - 1)).get j ≤ 1048576
      by_cases hjr : (j : Int) ≠ r
      · exact g2 j hj hjr
      · have : j = r.toNat := by omega
        rw [this, hown]; omega
    · rw [putE_eq]
      simp only [List.cons_append, List.append_assoc]
      rw [ofNat_of hc1, ofNat_of hc2, hb, hb2, hb3, g1, hb5, hb6, hs6]
      simp only [List.cons_append, List.append_assoc]
      rfl
  by_cases hk2 : 2 < kd
  · rw [if_pos hk2] at h
    generalize hq7 : tOne 0 1 s6 (tKeyE key 0) = q7 at h
    obtain ⟨lb, s7, x7⟩ := q7
    dsimp only at h
    generalize hq8 : tWords 12 s7 x7 = q8 at h
    obtain ⟨vl, s8, x8⟩ := q8
    dsimp only at h
    simp only [Prod.mk.injEq] at h
    obtain ⟨hz1, hz2, hz3⟩ := h
    subst hz1; subst hz2; subst hz3
    have t8 := tWords_ok (most := 12) (s := s7) (e := x7) (by rw [hq8])
    rw [hq8] at t8
    dsimp only at t8
    obtain ⟨e8, v1, v2, hb8⟩ := t8
    subst e8
    have t7 := tOne_ok (low := 0) (high := 1) (s := s6) (e := tKeyE key 0) (by rw [hq7])
    rw [hq7] at t7
    dsimp only at t7
    obtain ⟨e7, l1, l2, c7, hb7, hc7⟩ := t7
    obtain ⟨_, hko⟩ := tKeyE_ok e7
    exact hfin lb vl s8 hko l1 (by omega) (by omega) (fun _ => v1) (fun hh => absurd hh (by omega)) (by
      rw [if_pos hk2, ofNat_of hc7, List.cons_append, hb7, hb8])
  · rw [if_neg hk2] at h
    simp only [Prod.mk.injEq] at h
    obtain ⟨hz1, hz2, hz3⟩ := h
    subst hz1
    obtain ⟨_, hko⟩ := tKeyE_ok hz3
    exact hfin 0 [] s hko (by decide) (by decide) (by decide) (fun hh => absurd hh hk2) (fun _ => ⟨rfl, rfl⟩) (by rw [if_neg hk2]; exact hz2)

/-! ### what is cut -/
theorem take_cut {α : Type} (p q : List α) (i : Nat) : (i < p.length ∧ (p ++ q).take i = p.take i) ∨ (p.length ≤ i ∧ (p ++ q).take i = p ++ q.take (i - p.length)) := by
  rcases Nat.lt_or_ge i p.length with h | h
  · exact .inl ⟨h, by rw [List.take_append_of_le_length (Nat.le_of_lt h)]⟩
  · refine .inr ⟨h, ?_⟩
    rw [List.take_append, List.take_of_length_le h]
theorem tOne_nil {l h : Int} : (tOne l h [] 0).2.2 = 2 := rfl
theorem tNum_cut {l h : Int} (n i : Nat) (hi : i < (vput n).length) (hn : (vput n).length ≤ 10) : (tNum l h ((vput n).take i) 0).2.2 = 2 := by
  unfold tNum
  rw [vtake_short n i hi hn, if_pos (.inr (by decide))]
  rfl
theorem tWords_nil {m : Int} : (tWords m [] 0).2.2 = 2 := by
  unfold tWords
  rw [if_pos (.inl (by rw [tOne_nil]; decide))]
  rfl
theorem tWords_cut {m : Int} (w : List UInt8) (h1 : 1 ≤ w.length) (hm : (w.length : Int) ≤ m) (h2 : w.length < 256) (i : Nat) (hi : i < w.length) : (tWords m (UInt8.ofNat w.length :: w.take i) 0).2.2 = 2 := by
  have e : tOne 1 m (UInt8.ofNat w.length :: w.take i) 0 = ((w.length : Int), w.take i, 0) := by
    have := tOne_put (l := 1) (h := m) (s := w.take i) (w.length : Int) (by omega) (by omega) (by omega) hm
    simpa using this
  unfold tWords
  rw [e, if_pos (.inr (by simp only [List.length_take]; omega))]
  rfl
theorem tCtx_cut (x : Ev) (hk : EvOk x) : ∀ (i : Nat), i ≤ 5 → ∀ j, j < (ctxB x i).length → (tCtx x.r ((ctxB x i).take j) 0 i).2.2 = 2
  | 0, _, j, hj => absurd hj (by simp [ctxB])
  | i + 1, hi, j, hj => by
    have hci := hk.c i (by omega)
    rw [ctxB_succ] at hj ⊢
    show (tStep x.r i (tCtx x.r _ 0 i)).2.2 = 2
    rcases take_cut (ctxB x i) (if (i : Int) ≠ x.r then vput (x.c.get i).toNat else []) j with ⟨h1, h2⟩ | ⟨h1, h2⟩
    · rw [h2]
      have ih := tCtx_cut x hk i (by omega) j h1
      unfold tStep
      split
      · show (tNum 0 1048576 (tCtx x.r _ 0 i).2.1 (tCtx x.r _ 0 i).2.2).2.2 = 2
        rw [ih]
        exact tNum_s (by decide)
      · exact ih
    · rw [h2]
      obtain ⟨c, g1, _⟩ := tCtx_put x hk i (by omega) ((if (i : Int) ≠ x.r then vput (x.c.get i).toNat else []).take (j - (ctxB x i).length))
      rw [g1]
      by_cases hne : (i : Int) ≠ x.r
      · rw [if_pos hne] at hj ⊢
        rw [List.length_append] at hj
        unfold tStep
        rw [if_pos hne]
        exact tNum_cut _ _ (by omega) (vput_len10 _ (by omega))
      · rw [if_neg hne, List.append_nil] at hj
        omega
def tailV (x : Ev) : List UInt8 := if 2 < x.kind then UInt8.ofNat x.label.toNat :: (UInt8.ofNat x.val.length :: x.val) else []
def tailK (x : Ev) : List UInt8 := UInt8.ofNat x.key.length :: (x.key ++ tailV x)
def tailH (x : Ev) : List UInt8 := vput x.h.toNat ++ tailK x
def tailC (x : Ev) : List UInt8 := ctxB x 5 ++ tailH x
theorem putE_tail (x : Ev) : putE x = UInt8.ofNat x.kind.toNat :: (UInt8.ofNat x.r.toNat :: (vput x.n.toNat ++ tailC x)) := by
  rw [putE_eq]; rfl
theorem takeS_cut (x : Ev) (hk : EvOk x) (i : Nat) (hi : i < (putE x).length) : (takeS ((putE x).take i)).2.2 = 2 := by
  have h1 := hk.k1; have h2 := hk.k5; have h3 := hk.r0; have h4 := hk.r5; have h5 := hk.n1; have h6 := hk.n2; have h7 := hk.h1; have h8 := hk.h2
  have hkey1 := hk.key1; have hkey8 := hk.key8
  rw [takeS_f]
  rw [putE_tail] at hi ⊢
  cases i with
  | zero => rw [List.take_zero, f1_s (by rw [tOne_nil]; decide)]; rfl
  | succ i =>
  rw [List.take_succ_cons, tOne_put x.kind (by omega) (by omega) (by omega) (by omega)]
  rw [List.length_cons] at hi
  unfold f1
  cases i with
  | zero => rw [List.take_zero]; exact (f2_s (by rw [tOne_nil]; decide)).trans rfl
  | succ i =>
  rw [List.take_succ_cons]
  simp only
  rw [tOne_put x.r (by omega) (by omega) (by omega) (by omega)]
  rw [List.length_cons] at hi
  unfold f2
  simp only
  rcases take_cut (vput x.n.toNat) (tailC x) i with ⟨g1, g2⟩ | ⟨g1, g2⟩
  · rw [g2]
    have := tNum_cut (l := 1) (h := 1048576) x.n.toNat i g1 (vput_len10 _ (by omega))
    rw [f3_s (by rw [this]; decide), this]
  rw [g2, tNum_put x.n (by omega) (by omega) (by omega) (by omega)]
  rw [List.length_append] at hi
  have hi2 : i - (vput x.n.toNat).length < (tailC x).length := by omega
  generalize i - (vput x.n.toNat).length = i2 at *
  unfold f3
  simp only
  unfold tailC at hi2 ⊢
  rcases take_cut (ctxB x 5) (tailH x) i2 with ⟨g3, g4⟩ | ⟨g3, g4⟩
  · rw [g4]
    have := tCtx_cut x hk 5 (Nat.le_refl _) i2 g3
    rw [f4_s (by rw [this]; decide), this]
  rw [g4]
  obtain ⟨c, hc1, _⟩ := tCtx_put x hk 5 (Nat.le_refl _) ((tailH x).take (i2 - (ctxB x 5).length))
  rw [hc1]
  rw [List.length_append] at hi2
  have hi3 : i2 - (ctxB x 5).length < (tailH x).length := by omega
  generalize i2 - (ctxB x 5).length = i3 at *
  unfold f4
  simp only
  unfold tailH at hi3 ⊢
  rcases take_cut (vput x.h.toNat) (tailK x) i3 with ⟨g5, g6⟩ | ⟨g5, g6⟩
  · rw [g6]
    have := tNum_cut (l := 1) (h := 16777216) x.h.toNat i3 g5 (vput_len10 _ (by omega))
    rw [f5_s (by rw [this]; decide), this]
  rw [g6, tNum_put x.h (by omega) (by omega) (by omega) (by omega)]
  rw [List.length_append] at hi3
  have hi4 : i3 - (vput x.h.toNat).length < (tailK x).length := by omega
  generalize i3 - (vput x.h.toNat).length = i4 at *
  unfold f5
  simp only
  unfold tailK at hi4 ⊢
  cases i4 with
  | zero =>
    rw [List.take_zero]
    have := tWords_nil (m := 8)
    rw [f6_s (by rw [this]; decide), this]
  | succ i4 =>
  rw [List.take_succ_cons]
  rw [List.length_cons] at hi4
  rcases take_cut x.key (tailV x) i4 with ⟨g7, g8⟩ | ⟨g7, g8⟩
  · rw [g8]
    have := tWords_cut (m := 8) x.key hkey1 (by omega) (by omega) i4 g7
    rw [f6_s (by rw [this]; decide), this]
  rw [g8]
  have hw := tWords_put (m := 8) (s := (tailV x).take (i4 - x.key.length)) x.key hkey1 (by omega) (by omega)
  rw [List.cons_append] at hw
  rw [hw]
  have hko : keyOk x.key = true := by simp only [keyOk, Bool.and_eq_true, decide_eq_true_eq]; exact ⟨⟨hkey1, hkey8⟩, hk.keya⟩
  have hke : tKeyE x.key 0 = 0 := if_pos hko
  rw [List.length_append] at hi4
  have hi5 : i4 - x.key.length < (tailV x).length := by omega
  generalize i4 - x.key.length = i5 at *
  unfold f6
  simp only [hke]
  unfold tailV at hi5 ⊢
  by_cases hz : 2 < x.kind
  · rw [if_pos hz] at hi5
    rw [if_pos hz, if_pos hz]
    have hv1 := hk.v1 hz; have hv12 := hk.v12; have hl0 := hk.l0; have hl2 := hk.l2
    cases i5 with
    | zero =>
      rw [List.take_zero]
      show (tWords 12 (tOne 0 1 [] 0).2.1 (tOne 0 1 [] 0).2.2).2.2 = 2
      rw [tOne_nil]
      exact tWords_s (by decide)
    | succ i5 =>
    rw [List.take_succ_cons, tOne_put x.label (by omega) (by omega) (by omega) (by omega)]
    rw [List.length_cons] at hi5
    simp only
    cases i5 with
    | zero => rw [List.take_zero]; exact tWords_nil
    | succ i5 =>
    rw [List.take_succ_cons]
    rw [List.length_cons] at hi5
    exact tWords_cut x.val hv1 (by omega) (by omega) i5 (by omega)
  · rw [if_neg hz] at hi5
    exact absurd hi5 (by simp)
theorem takeE_cut (x : Ev) (hk : EvOk x) (i : Nat) (hi : i < (putE x).length) : takeE ((putE x).take i) = (evZ, 0, 2) := by
  have h := takeS_cut x hk i hi
  unfold takeE takeFin
  rw [h, if_pos (by decide)]
/-- Of any bytes: an event's, or none's. -/
theorem takeE_any (b : List UInt8) : ((takeE b).2.2 = 0 ∧ EvOk (takeE b).1 ∧ (takeE b).2.1 = ((putE (takeE b).1).length : Int) ∧ (putE (takeE b).1).length ≤ b.length ∧ b.take (putE (takeE b).1).length = putE (takeE b).1) ∨
    ((takeE b).2.2 ≠ 0 ∧ (takeE b).1 = evZ ∧ (takeE b).2.1 = 0) := by
  by_cases h : (takeS b).2.2 = 0
  · left
    have e : takeS b = ((takeS b).1, (takeS b).2.1, 0) := by rw [← h]
    obtain ⟨h1, h2⟩ := takeS_ok e
    unfold takeE takeFin
    rw [h, if_neg (by simp)]
    generalize (takeS b).1 = z at *
    generalize (takeS b).2.1 = s at *
    simp only
    refine ⟨trivial, h1, ?_, ?_, ?_⟩
    · rw [h2, List.length_append]; omega
    · rw [h2, List.length_append]; omega
    · conv => lhs; rw [h2]
      simp
  · right
    unfold takeE takeFin
    rw [if_pos h]
    exact ⟨h, rfl, rfl⟩
theorem vput_len3 (n : Nat) (h : n < 2097152) : (vput n).length ≤ 3 := vput_len 2 n (by omega)
theorem vput_len4 (n : Nat) (h : n < 268435456) : (vput n).length ≤ 4 := vput_len 3 n (by omega)
theorem ctxB_len (x : Ev) (hk : EvOk x) : (ctxB x 5).length ≤ 12 := by
  have key : ∀ i, i ≤ 5 → (ctxB x i).length ≤ 3 * (if x.r < i then i - 1 else i) := by
    intro i
    induction i with
    | zero => intro _; simp [ctxB]
    | succ i ih =>
      intro hi
      have h1 := ih (by omega)
      have hci := hk.c i (by omega)
      have h2 := vput_len3 (x.c.get i).toNat (by omega)
      rw [ctxB_succ, List.length_append]
      have hr0 := hk.r0
      by_cases hne : (i : Int) ≠ x.r
      · rw [if_pos hne]
        split at h1 <;> split <;> omega
      · rw [if_neg hne]
        simp only [List.length_nil]
        split at h1 <;> split <;> omega
  have := key 5 (Nat.le_refl _)
  have hr5 := hk.r5
  rw [if_pos (by omega)] at this
  omega
theorem putE_le (x : Ev) (hk : EvOk x) : (putE x).length ≤ 44 := by
  have h1 := ctxB_len x hk
  have h5 := hk.n1; have h6 := hk.n2; have h7 := hk.h1; have h8 := hk.h2
  have h2 := vput_len3 x.n.toNat (by omega)
  have h3 := vput_len4 x.h.toNat (by omega)
  have h4 := hk.key8; have h9 := hk.v12
  rw [putE_tail]
  unfold tailC tailH tailK tailV
  simp only [List.length_cons, List.length_append]
  split <;> simp <;> omega
theorem putE_inj {x y : Ev} (hx : EvOk x) (hy : EvOk y) {s t : List UInt8} (h : putE x ++ s = putE y ++ t) : x = y := by
  have h1 := takeE_put x hx s
  rw [h, takeE_put y hy t] at h1
  exact (congrArg Prod.fst h1).symm
theorem putE_pre {x y : Ev} (hx : EvOk x) (hy : EvOk y) : decide ((putE x).take (min (putE x).length (putE y).length) = (putE y).take (min (putE x).length (putE y).length)) = decide (x = y) := by
  refine decide_eq_decide.2 ⟨fun h => ?_, fun h => by rw [h]⟩
  rcases Nat.le_total (putE x).length (putE y).length with hl | hl
  · rw [Nat.min_eq_left hl, List.take_length] at h
    refine putE_inj hx hy (s := (putE y).drop (putE x).length) (t := []) ?_
    conv => lhs; lhs; rw [h]
    rw [List.take_append_drop, List.append_nil]
  · rw [Nat.min_eq_right hl, List.take_length] at h
    refine putE_inj hx hy (s := []) (t := (putE x).drop (putE y).length) ?_
    conv => rhs; lhs; rw [← h]
    rw [List.take_append_drop, List.append_nil]
end Go.Proofs.Ytgdbbaggkoillaa
