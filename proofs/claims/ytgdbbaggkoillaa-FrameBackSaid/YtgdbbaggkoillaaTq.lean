/- What was put is taken; what is taken was put; what is cut is too short: plain. -/
import Derived.Test.YtgdbbaggkoillaaTp
import Derived.Test.YtgdbbaggkoillaaEx
namespace Go.Proofs.Ytgdbbaggkoillaa
open K

/-! ### an error stays -/
theorem tOne_s {l h : Int} {s : List UInt8} {e : Int} (he : e ≠ 0) : (tOne l h s e).2.2 = e := by unfold tOne; rw [if_pos he]
theorem tNum_s {l h : Int} {s : List UInt8} {e : Int} (he : e ≠ 0) : (tNum l h s e).2.2 = e := by unfold tNum; rw [if_pos (.inl he), if_neg he]
theorem tWords_s {m : Int} {s : List UInt8} {e : Int} (he : e ≠ 0) : (tWords m s e).2.2 = e := by
  unfold tWords
  rw [tOne_s he, if_pos (.inl he), if_neg he]
theorem tCtx_s {r : Int} {s : List UInt8} {e : Int} (he : e ≠ 0) : ∀ i, (tCtx r s e i).2.2 = e
  | 0 => rfl
  | i + 1 => by
    have ih := tCtx_s (r := r) (s := s) he i
    show (tStep r i (tCtx r s e i)).2.2 = e
    unfold tStep
    split
    · show (tNum 0 1048576 (tCtx r s e i).2.1 (tCtx r s e i).2.2).2.2 = e
      rw [tNum_s (by rw [ih]; exact he), ih]
    · exact ih
theorem tKeyE_s {k : List UInt8} {e : Int} (he : e ≠ 0) : tKeyE k e = e := by
  unfold tKeyE
  split
  · rfl
  · first | rfl | rw [if_neg he]

def f6 (k r n : Int) (c : Clk) (h : Int) (y : List UInt8 × List UInt8 × Int) : Ev × List UInt8 × Int :=
  if 2 < k then
    (⟨r, n, c, h, k, y.1, (tOne 0 1 y.2.1 (tKeyE y.1 y.2.2)).1, (tWords 12 (tOne 0 1 y.2.1 (tKeyE y.1 y.2.2)).2.1 (tOne 0 1 y.2.1 (tKeyE y.1 y.2.2)).2.2).1⟩, (tWords 12 (tOne 0 1 y.2.1 (tKeyE y.1 y.2.2)).2.1 (tOne 0 1 y.2.1 (tKeyE y.1 y.2.2)).2.2).2.1, (tWords 12 (tOne 0 1 y.2.1 (tKeyE y.1 y.2.2)).2.1 (tOne 0 1 y.2.1 (tKeyE y.1 y.2.2)).2.2).2.2)
  else (⟨r, n, c, h, k, y.1, 0, []⟩, y.2.1, tKeyE y.1 y.2.2)
def f5 (k r n : Int) (c : Clk) (h : Int × List UInt8 × Int) := f6 k r n c h.1 (tWords 8 h.2.1 h.2.2)
def f4 (k r n : Int) (c : Clk × List UInt8 × Int) := f5 k r n c.1 (tNum 1 16777216 c.2.1 c.2.2)
def f3 (k r : Int) (n : Int × List UInt8 × Int) := f4 k r n.1 (tCtx r n.2.1 n.2.2 5)
def f2 (k : Int) (r : Int × List UInt8 × Int) := f3 k r.1 (tNum 1 1048576 r.2.1 r.2.2)
def f1 (k : Int × List UInt8 × Int) := f2 k.1 (tOne 0 4 k.2.1 k.2.2)
theorem takeS_f (b : List UInt8) : takeS b = f1 (tOne 1 5 b 0) := rfl
theorem f6_s {k r n : Int} {c : Clk} {h : Int} {y : List UInt8 × List UInt8 × Int} (he : y.2.2 ≠ 0) : (f6 k r n c h y).2.2 = y.2.2 := by
  unfold f6
  have h1 := tKeyE_s (k := y.1) he
  split
  · show (tWords 12 (tOne 0 1 y.2.1 (tKeyE y.1 y.2.2)).2.1 (tOne 0 1 y.2.1 (tKeyE y.1 y.2.2)).2.2).2.2 = y.2.2
    rw [h1]
    rw [tWords_s (by rw [tOne_s he]; exact he), tOne_s he]
  · exact h1
theorem f5_s {k r n : Int} {c : Clk} {h : Int × List UInt8 × Int} (he : h.2.2 ≠ 0) : (f5 k r n c h).2.2 = h.2.2 := by
  have h1 := tWords_s (m := 8) (s := h.2.1) he
  exact (f6_s (y := tWords 8 h.2.1 h.2.2) (by rw [h1]; exact he)).trans h1
theorem f4_s {k r n : Int} {c : Clk × List UInt8 × Int} (he : c.2.2 ≠ 0) : (f4 k r n c).2.2 = c.2.2 := by
  have h1 := tNum_s (l := 1) (h := 16777216) (s := c.2.1) he
  exact (f5_s (h := tNum 1 16777216 c.2.1 c.2.2) (by rw [h1]; exact he)).trans h1
theorem f3_s {k r : Int} {n : Int × List UInt8 × Int} (he : n.2.2 ≠ 0) : (f3 k r n).2.2 = n.2.2 := by
  have h1 := tCtx_s (r := r) (s := n.2.1) he 5
  exact (f4_s (c := tCtx r n.2.1 n.2.2 5) (by rw [h1]; exact he)).trans h1
theorem f2_s {k : Int} {r : Int × List UInt8 × Int} (he : r.2.2 ≠ 0) : (f2 k r).2.2 = r.2.2 := by
  have h1 := tNum_s (l := 1) (h := 1048576) (s := r.2.1) he
  exact (f3_s (n := tNum 1 1048576 r.2.1 r.2.2) (by rw [h1]; exact he)).trans h1
theorem f1_s {k : Int × List UInt8 × Int} (he : k.2.2 ≠ 0) : (f1 k).2.2 = k.2.2 := by
  have h1 := tOne_s (l := 0) (h := 4) (s := k.2.1) he
  exact (f2_s (r := tOne 0 4 k.2.1 k.2.2) (by rw [h1]; exact he)).trans h1

/-! ### what was put is taken -/
theorem tOne_put {l h : Int} {s : List UInt8} (n : Int) (h0 : 0 ≤ n) (h1 : n < 256) (hl : l ≤ n) (hh : n ≤ h) : tOne l h (UInt8.ofNat n.toNat :: s) 0 = (n, s, 0) := by
  have e : ((UInt8.ofNat n.toNat).toNat : Int) = n := by simp; omega
  unfold tOne
  rw [if_neg (by simp)]
  simp only [e]
  rw [if_neg (by omega)]
theorem vput_len9 (n : Nat) (h : n < 2 ^ 63) : (vput n).length ≤ 9 := vput_len 8 n (by omega)
theorem tNum_put {l h : Int} {s : List UInt8} (n : Int) (h0 : 0 ≤ n) (h1 : n ≤ 4611686018427387904) (hl : l ≤ n) (hh : n ≤ h) : tNum l h (vput n.toNat ++ s) 0 = (n, s, 0) := by
  have hv := vtake_put n.toNat (vput_len9 _ (by omega)) s
  unfold tNum
  rw [hv, if_neg (by simp)]
  simp only [List.drop_left]
  rw [if_neg (by omega), wi (by omega) (by omega), Int.toNat_of_nonneg h0]
theorem tWords_put {m : Int} {s : List UInt8} (w : List UInt8) (h1 : 1 ≤ w.length) (hm : (w.length : Int) ≤ m) (h2 : w.length < 256) : tWords m (UInt8.ofNat w.length :: w ++ s) 0 = (w, s, 0) := by
  have e : tOne 1 m (UInt8.ofNat w.length :: (w ++ s)) 0 = ((w.length : Int), w ++ s, 0) := by
    have := tOne_put (l := 1) (h := m) (s := w ++ s) (w.length : Int) (by omega) (by omega) (by omega) hm
    simpa using this
  unfold tWords
  rw [List.cons_append, e, if_neg (by simp; omega)]
  simp
theorem tCtx_put (x : Ev) (hk : EvOk x) : ∀ (i : Nat), i ≤ 5 → ∀ s : List UInt8, ∃ c, tCtx x.r (ctxB x i ++ s) 0 i = (c, s, 0) ∧ ∀ j, j < 5 → c.get j = if j < i ∧ (j : Int) ≠ x.r then x.c.get j else 0
  | 0, _, s => ⟨clk0, rfl, fun j hj => by
      rw [if_neg (by omega)]
      match j, hj with
      | 0, _ => rfl | 1, _ => rfl | 2, _ => rfl | 3, _ => rfl | 4, _ => rfl⟩
  | i + 1, hi, s => by
    have hci := hk.c i (by omega)
    rw [ctxB_succ, List.append_assoc]
    obtain ⟨c, h1, h2⟩ := tCtx_put x hk i (by omega) ((if (i : Int) ≠ x.r then vput (x.c.get i).toNat else []) ++ s)
    show ∃ c, tStep x.r i (tCtx x.r _ 0 i) = (c, s, 0) ∧ _
    rw [h1]
    unfold tStep
    by_cases hr : (i : Int) ≠ x.r
    · rw [if_pos hr, if_pos hr]
      simp only
      rw [tNum_put (x.c.get i) hci.1 (by omega) hci.1 hci.2]
      refine ⟨_, rfl, fun j hj => ?_⟩
      rw [Clk.get_set _ _ _ (by omega) hj]
      by_cases hij : i = j
      · subst hij
        rw [if_pos rfl, if_pos ⟨by omega, hr⟩]
      · rw [if_neg hij, h2 j hj]
        by_cases hj2 : j < i ∧ (j : Int) ≠ x.r
        · rw [if_pos hj2, if_pos ⟨by omega, hj2.2⟩]
        · rw [if_neg hj2, if_neg (by omega)]
    · rw [if_neg hr, if_neg hr]
      refine ⟨_, rfl, fun j hj => ?_⟩
      rw [h2 j hj]
      by_cases hj2 : j < i ∧ (j : Int) ≠ x.r
      · rw [if_pos hj2, if_pos ⟨by omega, hj2.2⟩]
      · rw [if_neg hj2, if_neg (by omega)]
theorem putE_eq (x : Ev) : putE x = UInt8.ofNat x.kind.toNat :: (UInt8.ofNat x.r.toNat :: (vput x.n.toNat ++ (ctxB x 5 ++ (vput x.h.toNat ++ (UInt8.ofNat x.key.length :: x.key ++
    (if 2 < x.kind then UInt8.ofNat x.label.toNat :: (UInt8.ofNat x.val.length :: x.val) else [])))))) := by
  unfold putE ctxB
  simp
theorem takeS_put (x : Ev) (hk : EvOk x) (s : List UInt8) : ∃ c, takeS (putE x ++ s) = ({ x with c := c }, s, 0) ∧ ∀ j, j < 5 → c.get j = if (j : Int) ≠ x.r then x.c.get j else 0 := by
  have h1 := hk.k1; have h2 := hk.k5; have h3 := hk.r0; have h4 := hk.r5; have h5 := hk.n1; have h6 := hk.n2; have h7 := hk.h1; have h8 := hk.h2
  have hkey1 := hk.key1; have hkey8 := hk.key8
  rw [takeS_f, putE_eq]
  simp only [List.cons_append, List.append_assoc]
  rw [tOne_put x.kind (by omega) (by omega) (by omega) (by omega)]
  unfold f1
  rw [tOne_put x.r (by omega) (by omega) (by omega) (by omega)]
  unfold f2
  simp only
  rw [tNum_put x.n (by omega) (by omega) (by omega) (by omega)]
  unfold f3
  simp only
  obtain ⟨c, hc1, hc2⟩ := tCtx_put x hk 5 (Nat.le_refl _) (vput x.h.toNat ++ (UInt8.ofNat x.key.length :: (x.key ++ ((if 2 < x.kind then UInt8.ofNat x.label.toNat :: (UInt8.ofNat x.val.length :: x.val) else []) ++ s))))
  rw [hc1]
  unfold f4
  simp only
  rw [tNum_put x.h (by omega) (by omega) (by omega) (by omega)]
  unfold f5
  simp only
  have hw := tWords_put (m := 8) (s := (if 2 < x.kind then UInt8.ofNat x.label.toNat :: (UInt8.ofNat x.val.length :: x.val) else []) ++ s) x.key hkey1 (by omega) (by omega)
  rw [List.cons_append] at hw
  rw [hw]
  have hko : keyOk x.key = true := by simp only [keyOk, Bool.and_eq_true, decide_eq_true_eq]; exact ⟨⟨hkey1, hkey8⟩, hk.keya⟩
  have hke : tKeyE x.key 0 = 0 := if_pos hko
  unfold f6
  simp only [hke]
  refine ⟨c, ?_, fun j hj => ?_⟩
  · by_cases hz : 2 < x.kind
    · rw [if_pos hz, if_pos hz]
      have hv1 := hk.v1 hz; have hv12 := hk.v12; have hl0 := hk.l0; have hl2 := hk.l2
      simp only [List.cons_append]
      rw [tOne_put x.label (by omega) (by omega) (by omega) (by omega)]
      simp only
      have hw2 := tWords_put (m := 12) (s := s) x.val hv1 (by omega) (by omega)
      rw [List.cons_append] at hw2
      rw [hw2]
    · rw [if_neg hz, if_neg hz]
      have hb := hk.bare (by omega)
      simp only [List.nil_append]
      obtain ⟨r, n, c', h, k, key, lb, vl⟩ := x
      simp only at hb
      obtain ⟨rfl, rfl⟩ := hb
      rfl
  · rw [hc2 j hj]
    by_cases hr : (j : Int) ≠ x.r
    · rw [if_pos ⟨hj, hr⟩, if_pos hr]
    · rw [if_neg (fun h => hr h.2), if_neg hr]
theorem takeE_put (x : Ev) (hk : EvOk x) (s : List UInt8) : takeE (putE x ++ s) = (x, ((putE x).length : Int), 0) := by
  obtain ⟨c, h1, h2⟩ := takeS_put x hk s
  unfold takeE takeFin
  rw [h1, if_neg (by simp)]
  have hr0 := hk.r0; have hr5 := hk.r5
  have hc : c.set x.r.toNat (x.n - 1) = x.c := Clk.ext' fun j hj => by
    rw [Clk.get_set _ _ _ (by omega) hj]
    split
    · rename_i hj; rw [← hk.own, hj]
    · rename_i hj; rw [h2 j (by assumption), if_pos (by omega)]
  simp only
  refine Prod.ext ?_ (Prod.ext ?_ rfl)
  · show ({ x with c := c.set x.r.toNat (x.n - 1) } : Ev) = x
    rw [hc]
  · show (((putE x ++ s).length - s.length : Nat) : Int) = ((putE x).length : Int)
    rw [List.length_append]; omega
end Go.Proofs.Ytgdbbaggkoillaa
