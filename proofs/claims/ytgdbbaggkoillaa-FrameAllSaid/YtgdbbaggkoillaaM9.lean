/- kithref05's functions, kithref06.in, May, Put: walks. -/
import Derived.Test.YtgdbbaggkoillaaM7
import Derived.Test.YtgdbbaggkoillaaM8
import Derived.Test.YtgdbbaggkoillaaM5
namespace Go.Proofs.Ytgdbbaggkoillaa
open K
set_option maxRecDepth 100000
set_option maxHeartbeats 4000000

theorem c_label5 (n : Int) (w : World) : Cl Try.prog 101 #[.int .i64 n] w (fun v w' => v = .int .i64 (tLabel n) ∧ Chg No w w') := by
  refine f_enter (args := [_]) Try.func101 rfl rfl ?_
  have mm := Mem.nil No w
  refine c_sreg rfl ?_
  refine s1 (r_asi rfl) ?_
  refine wn ?_
  refine c_seq ?_
  refine c_sreg rfl ?_
  refine s1 (r_mvi rfl) ?_
  refine s1 (r_eq rfl rfl) ?_
  refine s1 (r_mvb rfl) ?_
  refine sF rfl rfl (fun h => r_mvi rfl) ?_
  refine sF rfl rfl (fun h => r_eq (sel_t h :) rfl) ?_
  refine s1 (r_or rfl rfl) ?_
  refine wn ?_
  refine c_cond rfl (fun h => ?_) (fun h => (c_skip (t_n ?_)))
  · refine c_sreg rfl ?_
    refine s1 (r_asi rfl) ?_
    refine wn ?_
    refine c_ret (ret1 rfl rfl ⟨congrArg (Value.int .i64) ?_, mm.chg⟩)
    exact (if_pos (by simp at h; omega)).symm
  · refine c_sreg rfl ?_
    refine s1 (r_asi rfl) ?_
    refine wn ?_
    refine c_ret (ret1 rfl rfl ⟨congrArg (Value.int .i64) ?_, mm.chg⟩)
    exact (if_neg (by simp at h; omega)).symm
theorem c_value5 (s : List UInt8) (w : World) : Cl Try.prog 102 #[str s] w (fun v w' => v = .int .i64 (tValue s) ∧ Chg No w w') := by
  refine f_enter (args := [_]) Try.func102 rfl rfl ?_
  have mm := Mem.nil No w
  refine c_sreg rfl ?_
  refine s1 (r_asi rfl) ?_
  refine wn ?_
  refine c_seq ?_
  refine c_sreg rfl ?_
  refine s1 (r_mvt rfl) ?_
  refine s1 (r_slen rfl) ?_
  refine s1 (r_lt rfl rfl) ?_
  refine s1 (r_mvb rfl) ?_
  refine sF rfl rfl (fun h => r_mvt rfl) ?_
  refine sF rfl rfl (fun h => r_slen (sel_t h :)) ?_
  refine sF rfl rfl (fun h => r_gt (sel_t h :) rfl) ?_
  refine s1 (r_or rfl rfl) ?_
  refine wn ?_
  refine c_cond rfl (fun h => ?_) (fun h => (c_skip (t_n ?_)))
  · refine c_sreg rfl ?_
    refine s1 (r_asi rfl) ?_
    refine wn ?_
    refine c_ret (ret1 rfl rfl ⟨congrArg (Value.int .i64) ?_, mm.chg⟩)
    exact (if_neg (by simp at h; omega)).symm
  · refine c_sreg rfl ?_
    refine s1 (r_asi rfl) ?_
    refine wn ?_
    refine c_ret (ret1 rfl rfl ⟨congrArg (Value.int .i64) ?_, mm.chg⟩)
    exact (if_pos (by simp at h; omega)).symm
theorem c_key5 (s : List UInt8) (w : World) : Cl Try.prog 99 #[str s] w (fun v w' => v = .int .i64 (tKey s) ∧ Chg No w w') := by
  refine f_enter (args := [_]) Try.func99 rfl rfl ?_
  have mm := Mem.nil No w
  refine c_sreg rfl ?_
  refine s1 (r_asi rfl) ?_
  refine wn ?_
  refine c_seq ?_
  refine c_sreg rfl ?_
  refine s1 (r_mvt rfl) ?_
  refine s1 (r_slen rfl) ?_
  refine s1 (r_lt rfl rfl) ?_
  refine s1 (r_mvb rfl) ?_
  refine sF rfl rfl (fun h => r_mvt rfl) ?_
  refine sF rfl rfl (fun h => r_slen (sel_t h :)) ?_
  refine sF rfl rfl (fun h => r_gt (sel_t h :) rfl) ?_
  refine s1 (r_or rfl rfl) ?_
  refine wn ?_
  refine c_cond rfl (fun h => ?_) (fun h => (c_skip (t_n ?_)))
  · refine c_sreg rfl ?_
    refine s1 (r_asi rfl) ?_
    refine wn ?_
    refine c_ret (ret1 rfl rfl ⟨congrArg (Value.int .i64) ?_, mm.chg⟩)
    refine (if_neg ?_).symm
    simp [keyOk]
    simp at h
    omega
  have hl : 1 ≤ s.length ∧ s.length ≤ 8 := by simp at h; omega
  clear h
  refine c_seq ?_
  refine c_sreg rfl ?_
  refine s1 (r_asi rfl) ?_
  refine wn ?_
  refine c_block ?_
  refine c_loop (fun k e w' => ∃ i, k + i = s.length ∧ e 0 = str s ∧ e 3 = .int .i64 (i : Nat) ∧ Mem w No w' [] ∧ (s.take i).all okByte = true) s.length ?_ ?_
  · exact ⟨0, rfl, rfl, rfl, mm, rfl⟩
  clear mm
  rintro k e w9 ⟨i, hki, h0, h3, mm, hall⟩
  refine c_seq ?_
  refine c_sreg rfl ?_
  refine s1 (r_mvi h3) ?_
  refine s1 (r_mvt h0) ?_
  refine s1 (r_slen rfl) ?_
  refine s1 (r_lt rfl rfl) ?_
  refine wn ?_
  refine c_cond rfl (fun h => (c_skip (t_n ?_))) (fun h => (c_exit (t_x (t_x (b_x (t_n ?_))))))
  · have hi : i < s.length := by simp at h; omega
    clear h
    have hg : s.getD i 0 = s[i] := by simp [List.getD, hi]
    refine c_seq ?_
    refine c_block ?_
    refine c_sreg rfl ?_
    refine s1 (r_mvt h0) ?_
    refine s1 (r_mvi h3) ?_
    refine s1 (r_ixs rfl rfl (by omega) (by omega)) ?_
    refine s1 (r_lt rfl rfl) ?_
    refine s1 (r_mvb rfl) ?_
    refine sF rfl rfl (fun h => r_mvt h0) ?_
    refine sF rfl rfl (fun h => r_mvi h3) ?_
    refine sF rfl rfl (fun h => r_ixs (sel_t h :) (sel_t h :) (by omega) (by omega)) ?_
    refine sF rfl rfl (fun h => r_gt (sel_t h :) rfl) ?_
    refine s1 (r_or rfl rfl) ?_
    refine wn ?_
    refine c_cond rfl (fun h => ?_) (fun h => (c_skip (b_n (t_n ?_))))
    · refine c_sreg rfl ?_
      refine s1 (r_asi rfl) ?_
      refine wn ?_
      refine c_ret (ret1 rfl rfl ⟨congrArg (Value.int .i64) ?_, mm.chg⟩)
      refine (if_neg ?_).symm
      intro hk
      simp only [keyOk, Bool.and_eq_true, List.all_eq_true] at hk
      have hb := hk.2 s[i] (List.getElem_mem hi)
      simp only [okByte, Bool.and_eq_true, decide_eq_true_eq] at hb
      simp only [Int.toNat_natCast, hg] at h
      simp at h
      omega
    refine c_region rfl ?_
    refine s1 (r_mvi h3) ?_
    refine s1 (r_add rfl rfl (wi (by omega) (by omega))) ?_
    refine s1 (r_asi rfl) ?_
    refine wn (t_n ?_)
    refine ⟨k - 1, by omega, i + 1, by omega, h0, rfl, mm, ?_⟩
    rw [List.take_succ_eq_append_getElem hi, List.all_append, hall]
    simp only [Int.toNat_natCast, hg] at h
    simp at h
    simp only [List.all_cons, List.all_nil, okByte, Bool.true_and, Bool.and_true, Bool.and_eq_true, decide_eq_true_eq]
    omega
  · have hi : i = s.length := by simp at h; omega
    subst hi
    refine c_sreg rfl ?_
    refine s1 (r_asi rfl) ?_
    refine wn ?_
    refine c_ret (ret1 rfl rfl ⟨congrArg (Value.int .i64) ?_, mm.chg⟩)
    rw [List.take_length] at hall
    exact (if_pos (by simp [keyOk, hl, hall])).symm
theorem tKey_10 {s : List UInt8} (h : tKey s ≠ 0) : tKey s = 10 := by
  unfold tKey at *
  split at h
  · exact absurd rfl h
  · exact if_neg (by assumption)
theorem tLabel_11 {n : Int} (h : tLabel n ≠ 0) : tLabel n = 11 := by
  unfold tLabel at *
  split at h
  · exact absurd rfl h
  · exact if_neg (by assumption)
theorem c_edit5 (x : Ed) (w : World) : Cl Try.prog 94 #[.agg (edC x).toArray] w (fun v w' => v = .int .i64 (tEdit x) ∧ Chg No w w') := by
  refine f_enter (args := [_]) Try.func94 rfl rfl ?_
  have mm := Mem.nil No w
  refine c_sreg rfl ?_
  refine so (o_bxa mm rfl fun b2 w2 mm => ?_)
  refine s1 (r_asi rfl) ?_
  refine wn ?_
  refine c_seq ?_
  refine c_sreg rfl ?_
  refine s1 (r_fa rfl) ?_
  refine s1 (r_ld rfl (mm.b 0 rfl) rfl) ?_
  refine s1 (r_lt rfl rfl) ?_
  refine s1 (r_mvb rfl) ?_
  refine sF rfl rfl (fun h => r_fa rfl) ?_
  refine sF rfl rfl (fun h => r_ld (sel_t h :) (mm.b 0 rfl) rfl) ?_
  refine sF rfl rfl (fun h => r_gt (sel_t h :) rfl) ?_
  refine s1 (r_or rfl rfl) ?_
  refine wn ?_
  refine c_cond rfl (fun h => ?_) (fun h => (c_skip (t_n ?_)))
  · refine c_sreg rfl ?_
    refine s1 (r_asi rfl) ?_
    refine wn ?_
    refine c_ret (ret1 rfl rfl ⟨congrArg (Value.int .i64) ?_, mm.chg⟩)
    simp at h
    exact (if_pos (by omega)).symm
  have h1 : ¬ (x.kind < 1 ∨ 5 < x.kind) := by simp at h; omega
  clear h
  refine c_seq ?_
  refine c_sreg rfl ?_
  refine s1 (r_fa rfl) ?_
  refine s1 (r_ld rfl (mm.b 0 rfl) rfl) ?_
  refine so (o_c1 rfl (c_key5 x.key _) ?_)
  rintro _ w3 ⟨rfl, hc⟩
  have mm := mm.frame hc
  refine s1 (r_ne rfl rfl) ?_
  refine wn ?_
  refine c_cond rfl (fun h => ?_) (fun h => (c_skip (t_n ?_)))
  · refine c_sreg rfl ?_
    refine s1 (r_asi rfl) ?_
    refine wn ?_
    refine c_ret (ret1 rfl rfl ⟨congrArg (Value.int .i64) ?_, mm.chg⟩)
    simp at h
    exact ((if_neg h1).trans ((if_pos h).trans (tKey_10 h))).symm
  have h2 : ¬ tKey x.key ≠ 0 := by simp at h; simp [h]
  clear h
  refine c_seq ?_
  refine c_sreg rfl ?_
  refine s1 (r_fa rfl) ?_
  refine s1 (r_ld rfl (mm.b 0 rfl) rfl) ?_
  refine s1 (r_eq rfl rfl) ?_
  refine s1 (r_mvb rfl) ?_
  refine sF rfl rfl (fun h => r_fa rfl) ?_
  refine sF rfl rfl (fun h => r_ld (sel_t h :) (mm.b 0 rfl) rfl) ?_
  refine sF rfl rfl (fun h => r_eq (sel_t h :) rfl) ?_
  refine s1 (r_or rfl rfl) ?_
  refine wn ?_
  refine c_cond rfl (fun h => ?_) (fun h => (c_skip (t_n ?_)))
  · have h3 : x.kind ≤ 2 := by simp at h; omega
    clear h
    refine c_seq ?_
    refine c_sreg rfl ?_
    refine s1 (r_fa rfl) ?_
    refine s1 (r_ld rfl (mm.b 0 rfl) rfl) ?_
    refine s1 (r_ne rfl rfl) ?_
    refine wn ?_
    refine c_cond rfl (fun h => ?_) (fun h => (c_skip (t_n ?_)))
    · refine c_sreg rfl ?_
      refine s1 (r_asi rfl) ?_
      refine wn ?_
      refine c_ret (ret1 rfl rfl ⟨congrArg (Value.int .i64) ?_, mm.chg⟩)
      simp at h
      exact ((if_neg h1).trans ((if_neg h2).trans ((if_pos h3).trans (if_pos h)))).symm
    have h4 : ¬ x.label ≠ 0 := by simp at h; simp [h]
    clear h
    refine c_seq ?_
    refine c_sreg rfl ?_
    refine s1 (r_fa rfl) ?_
    refine s1 (r_ld rfl (mm.b 0 rfl) rfl) ?_
    refine s1 (r_sne rfl rfl) ?_
    refine wn ?_
    refine c_cond rfl (fun h => ?_) (fun h => (c_skip (t_n ?_)))
    · refine c_sreg rfl ?_
      refine s1 (r_asi rfl) ?_
      refine wn ?_
      refine c_ret (ret1 rfl rfl ⟨congrArg (Value.int .i64) ?_, mm.chg⟩)
      simp at h
      exact ((if_neg h1).trans ((if_neg h2).trans ((if_pos h3).trans ((if_neg h4).trans (if_pos h))))).symm
    have h5 : ¬ x.val ≠ [] := by simp at h; simp [h]
    clear h
    refine c_sreg rfl ?_
    refine s1 (r_asi rfl) ?_
    refine wn ?_
    refine c_ret (ret1 rfl rfl ⟨congrArg (Value.int .i64) ?_, mm.chg⟩)
    exact ((if_neg h1).trans ((if_neg h2).trans ((if_pos h3).trans ((if_neg h4).trans (if_neg h5))))).symm
  have h3 : ¬ x.kind ≤ 2 := by simp at h; omega
  clear h
  refine c_seq ?_
  refine c_sreg rfl ?_
  refine s1 (r_fa rfl) ?_
  refine s1 (r_ld rfl (mm.b 0 rfl) rfl) ?_
  refine so (o_c1 rfl (c_label5 x.label _) ?_)
  rintro _ w4 ⟨rfl, hc⟩
  have mm := mm.frame hc
  refine s1 (r_ne rfl rfl) ?_
  refine wn ?_
  refine c_cond rfl (fun h => ?_) (fun h => (c_skip (t_n ?_)))
  · refine c_sreg rfl ?_
    refine s1 (r_asi rfl) ?_
    refine wn ?_
    refine c_ret (ret1 rfl rfl ⟨congrArg (Value.int .i64) ?_, mm.chg⟩)
    simp at h
    exact ((if_neg h1).trans ((if_neg h2).trans ((if_neg h3).trans ((if_pos h).trans (tLabel_11 h))))).symm
  have h4 : ¬ tLabel x.label ≠ 0 := by simp at h; simp [h]
  clear h
  refine c_sreg rfl ?_
  refine s1 (r_fa rfl) ?_
  refine s1 (r_ld rfl (mm.b 0 rfl) rfl) ?_
  refine so (o_c1 rfl (c_value5 x.val _) ?_)
  rintro _ w5 ⟨rfl, hc⟩
  have mm := mm.frame hc
  refine s1 (r_asi rfl) ?_
  refine wn ?_
  refine c_ret (ret1 rfl rfl ⟨congrArg (Value.int .i64) ?_, mm.chg⟩)
  exact ((if_neg h1).trans ((if_neg h2).trans ((if_neg h3).trans (if_neg h4)))).symm

theorem c_in6 (n lo hi : Int) (w : World) : Cl Try.prog 93 #[.int .i64 n, .int .i64 lo, .int .i64 hi] w (fun v w' => v = .bool (decide (lo ≤ n) && decide (n ≤ hi)) ∧ Chg No w w') := by
  refine f_enter (args := [_, _, _]) Try.func93 rfl rfl ?_
  have mm := Mem.nil No w
  refine c_sreg rfl ?_
  refine s1 (r_asb rfl) ?_
  refine wn ?_
  refine c_sreg rfl ?_
  refine s1 (r_mvi rfl) ?_
  refine s1 (r_mvi rfl) ?_
  refine s1 (r_ge rfl rfl) ?_
  refine s1 (r_mvb rfl) ?_
  refine sT rfl rfl (fun h => r_mvi rfl) ?_
  refine sT rfl rfl (fun h => r_mvi rfl) ?_
  refine sT rfl rfl (fun h => r_le (sel_t h :) (sel_t h :)) ?_
  refine s1 (r_and rfl rfl) ?_
  refine s1 (r_asb rfl) ?_
  refine wn ?_
  exact c_ret (ret1 rfl rfl ⟨rfl, mm.chg⟩)
theorem c_may6 (x : Ev) (w : World) : Cl Try.prog 84 #[.agg (evC x).toArray] w (fun v w' => v = .int .i64 (evMay x) ∧ Chg No w w') := by
  refine f_enter (args := [_]) Try.func84 rfl rfl ?_
  have mm := Mem.nil No w
  refine c_sreg rfl ?_
  refine so (o_bxa mm rfl fun b2 w2 mm => ?_)
  refine s1 (r_asi rfl) ?_
  refine wn ?_
  have hnr : ∀ r, r = x.r → 0 ≤ r → r ≤ 4 → nth (evC x) (0 + 2 + r.toNat * 1) = some (.int .i64 (x.c.get r.toNat)) := fun r _ h0 h4 => nth_evr x r h0 (by omega)
  refine c_seq ?_
  refine c_sdraw mixed [(0, true), (1, true), (2, false), (3, true), (4, true), (5, true), (6, true), (7, false), (8, true), (9, true), (10, true), (11, true), (12, true), (13, false), (14, true), (15, true), (16, true), (17, true), (18, true), (19, true), (20, true), (21, true), (22, true), (23, true), (24, true), (25, true), (26, true)] [true, true, true, true, true, true, true, true, true, true, true, true, true, true, true, true, true, true, true, true, true, true, true, true, true, true, true] (Sof mm) (by kernel_rfl) rfl rfl (by kernel_rfl) (fun w3 hc => ?_)
  have mm := mm.frame hc
  refine p1 rfl (fun w m => r_fa rfl) mm ?_
  refine p1 rfl (fun w m => r_ld rfl (m.b 0 rfl) rfl) mm ?_
  refine po rfl (o_c3 rfl rfl rfl (c_in6 _ _ _ _) ?_)
  rintro _ w4 ⟨rfl, hc⟩
  have mm := mm.frame hc
  refine ⟨fun _ => mm, ?_⟩
  refine p1 rfl (fun w m => r_not rfl) mm ?_
  refine p1 rfl (fun w m => r_mvb rfl) mm ?_
  refine pF rfl rfl rfl (fun h w m => r_fa rfl) mm ?_
  refine pF rfl rfl rfl (fun h w m => r_ld (sel_t h :) (m.b 0 rfl) rfl) mm ?_
  refine pFw (I := Sof mm) rfl rfl rfl mm (fun h => o_c3 (sel_t h :) rfl rfl (c_in6 _ _ _ _) (fun _ _ hh => ⟨hh.1, mm.frame hh.2⟩)) (fun w5 mm => ⟨fun _ => mm, ?_⟩)
  refine pF rfl rfl rfl (fun h w m => r_not (sel_t h :)) mm ?_
  refine p1 rfl (fun w m => r_or rfl rfl) mm ?_
  refine p1 rfl (fun w m => r_mvb rfl) mm ?_
  refine pF rfl rfl rfl (fun h w m => r_fa rfl) mm ?_
  refine pF rfl rfl rfl (fun h w m => r_ld (sel_t h :) (m.b 0 rfl) rfl) mm ?_
  refine pFw (I := Sof mm) rfl rfl rfl mm (fun h => o_c3 (sel_t h :) rfl rfl (c_in6 _ _ _ _) (fun _ _ hh => ⟨hh.1, mm.frame hh.2⟩)) (fun w6 mm => ⟨fun _ => mm, ?_⟩)
  refine pF rfl rfl rfl (fun h w m => r_not (sel_t h :)) mm ?_
  refine p1 rfl (fun w m => r_or rfl rfl) mm ?_
  refine p1 rfl (fun w m => r_mvb rfl) mm ?_
  refine pF rfl rfl rfl (fun h w m => r_fa rfl) mm ?_
  refine pF rfl rfl rfl (fun h w m => r_ld (sel_t h :) (m.b 0 rfl) rfl) mm ?_
  refine pF rfl rfl rfl (fun h w m => r_fa rfl) mm ?_
  refine pF rfl rfl rfl (fun h w m => r_ixa (sel_t h :) (sel_t h :) (by simp at h; omega) (by simp at h; omega)) mm ?_
  refine pF rfl rfl rfl (fun h w m => r_ld (sel_t h :) (m.b 0 rfl) (hnr _ rfl (by simp at h; omega) (by simp at h; omega))) mm ?_
  refine pF rfl rfl rfl (fun h w m => r_fa rfl) mm ?_
  refine pF rfl rfl rfl (fun h w m => r_ld (sel_t h :) (m.b 0 rfl) rfl) mm ?_
  refine pF rfl rfl rfl (fun h w m => r_sub (sel_t h :) rfl (wi (by simp at h; omega) (by simp at h; omega))) mm ?_
  refine pF rfl rfl rfl (fun h w m => r_ne (sel_t h :) (sel_t h :)) mm ?_
  refine p1 rfl (fun w m => r_or rfl rfl) mm ?_
  refine pn ?_
  refine c_cond rfl (fun h => ?_) (fun h => (c_skip (t_n ?_)))
  · refine c_sreg rfl ?_
    refine s1 (r_asi rfl) ?_
    refine wn ?_
    refine c_ret (ret1 rfl rfl ⟨congrArg (Value.int .i64) ?_, mm.chg⟩)
    refine (if_neg ?_).symm
    intro hh
    simp only [evHead, Bool.and_eq_true, decide_eq_true_eq] at hh
    simp at h
    omega
  have hd : 0 ≤ x.r ∧ x.r < 5 ∧ 1 ≤ x.n ∧ x.n ≤ 1048576 ∧ x.c.get x.r.toNat = x.n - 1 ∧ 1 ≤ x.h ∧ x.h ≤ 16777216 := by simp at h; omega
  clear h
  have mm : Mem w No _ [bk b2 (evC x) 25] := mm
  refine c_seq ?_
  refine c_sreg rfl ?_
  refine s1 (r_asi rfl) ?_
  refine wn ?_
  refine c_block ?_
  refine c_loop (fun k e w' => ∃ i, k + i = 5 ∧ e 1 = .pointer (some ⟨b2, 0, none⟩) ∧ e 3 = .int .i64 (i : Nat) ∧ Mem w No w' [bk b2 (evC x) 25] ∧ ∀ j, j < i → inEv (x.c.get j) = true) 5 ?_ ?_
  · exact ⟨0, rfl, rfl, rfl, mm, fun j hj => absurd hj (by omega)⟩
  clear mm
  rintro k e w9 ⟨i, hki, h1, h3, mm, hall⟩
  refine c_seq ?_
  refine c_sreg rfl ?_
  refine s1 (r_mvi h3) ?_
  refine s1 (r_lt rfl rfl) ?_
  refine wn ?_
  refine c_cond rfl (fun h => (c_skip (t_n ?_))) (fun h => (c_exit (t_x (t_x (b_x (t_n ?_))))))
  · have hi : i < 5 := by simp at h; omega
    clear h
    refine c_seq ?_
    refine c_block ?_
    refine c_sreg rfl ?_
    refine s1 (r_mvi h3) ?_
    refine s1 (r_fa h1) ?_
    refine s1 (r_ixa rfl rfl (by omega) (by omega)) ?_
    refine s1 (r_ld rfl (mm.b 0 rfl) (nth_evi x i hi)) ?_
    refine so (o_c3 rfl rfl rfl (c_in6 _ _ _ _) ?_)
    rintro _ w7 ⟨rfl, hc⟩
    have mm := mm.frame hc
    refine s1 (r_not rfl) ?_
    refine wn ?_
    refine c_cond rfl (fun h => ?_) (fun h => (c_skip (b_n (t_n ?_))))
    · refine c_sreg rfl ?_
      refine s1 (r_asi rfl) ?_
      refine wn ?_
      refine c_ret (ret1 rfl rfl ⟨congrArg (Value.int .i64) ?_, mm.chg⟩)
      refine (if_neg ?_).symm
      intro hh
      simp only [evHead, Bool.and_eq_true] at hh
      have := (Clk.all_iff _ _).1 hh.2 i hi
      simp [inEv] at this h
      omega
    refine c_region rfl ?_
    refine s1 (r_mvi h3) ?_
    refine s1 (r_add rfl rfl (wi (by omega) (by omega))) ?_
    refine s1 (r_asi rfl) ?_
    refine wn (t_n ?_)
    refine ⟨k - 1, by omega, i + 1, by omega, h1, rfl, mm, ?_⟩
    intro j hj
    rcases Nat.lt_or_ge j i with hlt | hge
    · exact hall j hlt
    · obtain rfl : j = i := by omega
      simp [inEv] at h ⊢
      omega
  · have hi : i = 5 := by simp at h; omega
    subst hi
    have hh : evHead x = true := by
      simp only [evHead, Bool.and_eq_true, decide_eq_true_eq]
      exact ⟨⟨⟨⟨⟨⟨⟨hd.1, hd.2.1⟩, hd.2.2.1⟩, hd.2.2.2.1⟩, hd.2.2.2.2.1⟩, hd.2.2.2.2.2.1⟩, hd.2.2.2.2.2.2⟩, (Clk.all_iff _ _).2 hall⟩
    refine c_sreg rfl ?_
    refine s1 (r_lda h1 (mm.b 0 rfl) rfl) ?_
    refine so (o_c1 rfl (c_edit6 x _) ?_)
    rintro _ w8 ⟨rfl, hc⟩
    have mm := mm.frame hc
    refine so (o_c1 rfl (c_edit5 x.ed _) ?_)
    rintro _ w9 ⟨rfl, hc⟩
    have mm := mm.frame hc
    refine s1 (r_asi rfl) ?_
    refine wn ?_
    refine c_ret (ret1 rfl rfl ⟨congrArg (Value.int .i64) ?_, mm.chg⟩)
    exact (if_pos hh).symm

theorem len3 {α : Type} (a b c : List α) : (a ++ (b ++ c)).length = (a ++ b).length + c.length := by rw [← List.append_assoc, List.length_append]
theorem u8s3 (a b c : List UInt8) : u8s (a ++ (b ++ c)) = u8s (a ++ b) ++ u8s c := by rw [← List.append_assoc, u8s_append (a ++ b)]
theorem K.Mem.castp {w0 w : World} {F0 : Nat → Prop} {I : It} {T : TypeId} {sz n n' c : Nat} {a : Option Addr} {cs cs' : List Value} (h : Mem w0 F0 w [I, own T sz a n c cs]) (hn : n = n') (hc : cs = cs') : Mem w0 F0 w [I, own T sz a n' c cs'] := by subst hn; subst hc; exact h
theorem c_put6 (x : Ev) (w : World) : Cl Try.prog 62 #[.agg (evC x).toArray] w (fun v w' => ∃ a c, v = .tuple #[.slice a (if evMay x = 0 then putE x else []).length c, .int .i64 (evMay x)] ∧ Chg No w w' ∧ New w w' (own 5 1 a (if evMay x = 0 then putE x else []).length c (u8s (if evMay x = 0 then putE x else [])))) := by
  refine f_enter (args := [_]) Try.func62 rfl rfl ?_
  have mm := Mem.nil No w
  refine c_sreg rfl ?_
  refine so (o_bxa mm rfl fun b2 w2 mm => ?_)
  refine s1 (r_ass rfl) ?_
  refine s1 (r_asi rfl) ?_
  refine wn ?_
  refine c_sreg rfl ?_
  refine s1 (r_lda rfl (mm.b 0 rfl) rfl) ?_
  refine so (o_c1 rfl (c_may6 x _) ?_)
  rintro _ w3 ⟨rfl, hc⟩
  have mm := mm.frame hc
  refine s1 (r_asi rfl) ?_
  refine wn ?_
  refine c_seq ?_
  refine c_sreg rfl ?_
  refine s1 (r_mvi rfl) ?_
  refine s1 (r_ne rfl rfl) ?_
  refine wn ?_
  refine c_cond rfl (fun h => ?_) (fun h => (c_skip (t_n ?_)))
  · have hn : evMay x ≠ 0 := by simp at h; exact h
    refine c_sreg rfl ?_
    refine s1 (r_mvi rfl) ?_
    refine s1 (r_ass rfl) ?_
    refine s1 (r_asi rfl) ?_
    refine wn ?_
    rw [if_neg hn]
    have mm := mm.nilrow (T := 5) (sz := 1)
    exact c_ret (ret2 rfl rfl rfl ⟨none, 0, rfl, mm.chg, mm.isNew 1 rfl⟩)
  have hz : evMay x = 0 := by simp at h; exact h
  have hk := evMay_ok hz
  rw [if_pos hz, hz]
  clear h
  refine c_sreg rfl ?_
  refine s1 (r_fa rfl) ?_
  refine s1 (r_ld rfl (mm.b 0 rfl) rfl) ?_
  refine s1 (r_cv rfl rfl) ?_
  refine s1 (r_fa rfl) ?_
  refine s1 (r_ld rfl (mm.b 0 rfl) rfl) ?_
  refine s1 (r_cv rfl rfl) ?_
  refine so (o_bi2 mm rfl rfl fun a4 c4 w4 mm => ?_)
  refine s1 (r_ass rfl) ?_
  refine wn ?_
  rw [u8_int _ (by have := hk.k1; omega), u8_int _ hk.r0] at mm
  have mm : Mem w No _ [bk b2 (evC x) 25, own 5 1 a4 [UInt8.ofNat x.kind.toNat, UInt8.ofNat x.r.toNat].length c4 (u8s [UInt8.ofNat x.kind.toNat, UInt8.ofNat x.r.toNat])] := mm
  generalize hp0 : [UInt8.ofNat x.kind.toNat, UInt8.ofNat x.r.toNat] = q0 at *
  have hl0 : q0.length = 2 := by rw [← hp0]; rfl
  have hl := vput_len10 x.n.toNat (by have := hk.n2; omega)
  refine c_sreg rfl ?_
  refine s1 (r_mvs (show _ = Value.slice a4 q0.length c4 by rw [hl0]; rfl)) ?_
  refine s1 (r_fa rfl) ?_
  refine s1 (r_ld rfl (mm.b 0 rfl) rfl) ?_
  refine s1 (r_cv rfl (wu64n (by have := hk.n1; omega) (by have := hk.n2; omega))) ?_
  refine so (o_c1 rfl (c_vput1 x.n.toNat (by have := hk.n2; omega) _) ?_)
  rintro _ w5 ⟨a5, c5, rfl, hc, hn⟩
  have mm := mm.new hc hn
  refine so (o_ap mm 1 rfl rfl rfl (src_own mm  2 rfl (ones_u8s _)) (by omega) (by unfold maxLen; omega) fun a6 c6 w6 mm => ?_)
  refine s1 (r_ass rfl) ?_
  refine wn ?_
  have mm := (mm.pk [0, 1] (by decide)).castp (n' := (q0 ++ vput x.n.toNat).length) (cs' := u8s (q0 ++ vput x.n.toNat)) List.length_append.symm (u8s_append _ _).symm
  generalize hp1 : q0 ++ vput x.n.toNat = q1 at *
  have hl1 : q1.length ≤ 12 := by rw [← hp1, List.length_append]; omega
  refine c_seq ?_
  refine c_sreg rfl ?_
  refine s1 (r_asi rfl) ?_
  refine wn ?_
  refine c_block ?_
  refine c_loop (fun k e w' => ∃ (i : Nat) (a : Option Addr) (c : Nat), k + i = 5 ∧ e 1 = .pointer (some ⟨b2, 0, none⟩) ∧ e 5 = .slice a (q1 ++ ctxB x i).length c ∧ e 6 = .int .i64 (i : Nat) ∧ Mem w No w' [bk b2 (evC x) 25, own 5 1 a (q1 ++ ctxB x i).length c (u8s (q1 ++ ctxB x i))] ∧ (ctxB x i).length ≤ 10 * i) 5 ?_ ?_
  · refine ⟨0, a6, c6, rfl, rfl, ?_, rfl, ?_, Nat.le_refl _⟩
    rotate_left
    · have e0 : ctxB x 0 = [] := rfl
      rw [e0, List.append_nil]; exact mm
    · have e0 : ctxB x 0 = [] := rfl
      rw [e0, List.append_nil, ← hp1, List.length_append]; rfl
  clear mm hc hn
  rintro k e w9 ⟨i, a, c, hki, h1, h5, h6, mm, hle⟩
  have hle2 : (q1 ++ ctxB x i).length ≤ 12 + 10 * i := by rw [List.length_append]; omega
  refine c_seq ?_
  refine c_sreg rfl ?_
  refine s1 (r_mvi h6) ?_
  refine s1 (r_lt rfl rfl) ?_
  refine wn ?_
  refine c_cond rfl (fun h => (c_skip (t_n ?_))) (fun h => (c_exit (t_x (t_x (b_x (t_n ?_))))))
  · have hi : i < 5 := by simp at h; omega
    clear h
    refine c_seq ?_
    refine c_block ?_
    refine c_sreg rfl ?_
    refine s1 (r_mvi h6) ?_
    refine s1 (r_fa h1) ?_
    refine s1 (r_ld rfl (mm.b 0 rfl) rfl) ?_
    refine s1 (r_ne rfl rfl) ?_
    refine wn ?_
    refine c_mid1 (fun e w' => ∃ a c, e 1 = .pointer (some ⟨b2, 0, none⟩) ∧ e 5 = .slice a (q1 ++ ctxB x (i + 1)).length c ∧ e 6 = .int .i64 (i : Nat) ∧ Mem w No w' [bk b2 (evC x) 25, own 5 1 a (q1 ++ ctxB x (i + 1)).length c (u8s (q1 ++ ctxB x (i + 1)))] ∧ (ctxB x (i + 1)).length ≤ 10 * (i + 1)) ?_ ?_
    · refine c_cond rfl (fun h => ?_) (fun h => (c_skip (t_n ?_)))
      · have hne : (i : Int) ≠ x.r := by simpa using h
        have hci := hk.c i hi
        have hl2 := vput_len10 (x.c.get i).toNat (by omega)
        have hsn : ctxB x (i + 1) = ctxB x i ++ vput (x.c.get i).toNat := by rw [ctxB_succ, if_pos hne]
        refine c_region rfl ?_
        refine s1 (r_mvs h5) ?_
        refine s1 (r_mvi h6) ?_
        refine s1 (r_fa h1) ?_
        refine s1 (r_ixa rfl rfl (by omega) (by omega)) ?_
        refine s1 (r_ld rfl (mm.b 0 rfl) (nth_evi x i hi)) ?_
        refine s1 (r_cv rfl (wu64n hci.1 (by omega))) ?_
        refine so (o_c1 rfl (c_vput1 (x.c.get i).toNat (by omega) _) ?_)
        rintro _ w7 ⟨a7, c7, rfl, hc, hn⟩
        have mm := mm.new hc hn
        refine so (o_ap mm 1 rfl rfl rfl (src_own mm  2 rfl (ones_u8s _)) (by omega) (by unfold maxLen; omega) fun a8 c8 w8 mm => ?_)
        refine s1 (r_ass rfl) ?_
        refine wn (t_n ?_)
        have mm := (mm.pk [0, 1] (by decide)).castp (n' := (q1 ++ ctxB x (i + 1)).length) (cs' := u8s (q1 ++ ctxB x (i + 1))) (by rw [hsn, len3]) (by rw [hsn, u8s3])
        refine ⟨_, _, h1, ?_, h6, mm, by rw [hsn, List.length_append]; omega⟩
        rw [hsn, len3]; rfl
      · have hne : ¬ (i : Int) ≠ x.r := by simpa using h
        have hsn : ctxB x (i + 1) = ctxB x i := by rw [ctxB_succ, if_neg hne, List.append_nil]
        rw [hsn]
        exact ⟨_, _, h1, h5, h6, mm, by omega⟩
    clear mm h1 h5 h6 hle hle2
    clear a c
    rintro e w9 ⟨a, c, h1, h5, h6, mm, hle⟩
    refine c_region rfl ?_
    refine s1 (r_mvi h6) ?_
    refine s1 (r_add rfl rfl (wi (by omega) (by omega))) ?_
    refine s1 (r_asi rfl) ?_
    refine wn (t_n ?_)
    exact ⟨k - 1, by omega, i + 1, a, c, by omega, h1, h5, rfl, mm, hle⟩
  have hi : i = 5 := by simp at h; omega
  subst hi
  clear h h6
  generalize hp2 : q1 ++ ctxB x 5 = q2 at *
  have hl3 := vput_len10 x.h.toNat (by have := hk.h2; omega)
  refine c_sreg rfl ?_
  refine s1 (r_mvs h5) ?_
  refine s1 (r_fa h1) ?_
  refine s1 (r_ld rfl (mm.b 0 rfl) rfl) ?_
  refine s1 (r_cv rfl (wu64n (by have := hk.h1; omega) (by have := hk.h2; omega))) ?_
  refine so (o_c1 rfl (c_vput1 x.h.toNat (by have := hk.h2; omega) _) ?_)
  rintro _ w9 ⟨a9, c9, rfl, hc, hn⟩
  have mm := mm.new hc hn
  refine so (o_ap mm 1 rfl rfl rfl (src_own mm  2 rfl (ones_u8s _)) (by omega) (by unfold maxLen; omega) fun a10 c10 w10 mm => ?_)
  refine s1 (r_ass rfl) ?_
  refine wn ?_
  have mm := (mm.pk [0, 1] (by decide)).castp (n' := (q2 ++ vput x.h.toNat).length) (cs' := u8s (q2 ++ vput x.h.toNat)) List.length_append.symm (u8s_append _ _).symm
  have hp3l : (q2 ++ vput x.h.toNat).length = q2.length + (vput x.h.toNat).length := List.length_append
  generalize hp3 : q2 ++ vput x.h.toNat = q3 at *
  have hk8 := hk.key8
  refine c_sdraw mixed [(0, true), (1, true), (2, true), (3, true), (4, true), (7, true), (8, true), (5, false), (6, false), (9, false), (10, true)] [true, true, true, true, true, true, true, true, true, true, true] (Sof (mm.pk [0] (by decide))) (by kernel_rfl) rfl rfl (by kernel_rfl) (fun w11 hc => ?_)
  have mm := mm.frame hc
  refine p1 rfl (fun w m => r_mvs (show _ = Value.slice a10 q3.length c10 by rw [hp3l]; rfl)) (mm.pk [0] (by decide)) ?_
  refine p1 rfl (fun w m => r_fa h1) (mm.pk [0] (by decide)) ?_
  refine p1 rfl (fun w m => r_ld rfl (m.b 0 rfl) rfl) (mm.pk [0] (by decide)) ?_
  refine p1 rfl (fun w m => r_slen rfl) (mm.pk [0] (by decide)) ?_
  refine p1 rfl (fun w m => r_cv rfl rfl) (mm.pk [0] (by decide)) ?_
  refine p1 rfl (fun w m => r_fa h1) (mm.pk [0] (by decide)) ?_
  refine p1 rfl (fun w m => r_ld rfl (m.b 0 rfl) rfl) (mm.pk [0] (by decide)) ?_
  refine po rfl (o_bi1 mm rfl fun a12 c12 w12 mm => ⟨fun _ => (mm.sub [0] _ (by decide) rfl), ?_⟩)
  refine po rfl (o_ap mm 1 rfl rfl rfl (src_own mm 2 rfl rfl) (by omega) (by unfold maxLen; omega) fun a13 c13 w13 mm => ⟨fun _ => (mm.sub [0] _ (by decide) rfl), ?_⟩)
  refine po rfl (o_ap mm 1 rfl rfl rfl src_str (by omega) (by unfold maxLen; omega) fun a14 c14 w14 mm => ⟨fun _ => (mm.sub [0] _ (by decide) rfl), ?_⟩)
  refine p1 rfl (fun w m => r_ass rfl) (mm.pk [0] (by decide)) ?_
  refine pn ?_
  have mm := (mm.pk [0, 1] (by decide)).castp (n' := (q3 ++ UInt8.ofNat x.key.length :: x.key).length) (cs' := u8s (q3 ++ UInt8.ofNat x.key.length :: x.key)) (by rw [List.length_append, List.length_cons]; omega) (by rw [u8s_append]; simp [u8s, u8_any])
  have hp4l : (q3 ++ UInt8.ofNat x.key.length :: x.key).length = q3.length + 1 + x.key.length := by rw [List.length_append, List.length_cons]; omega
  generalize hp4 : q3 ++ UInt8.ofNat x.key.length :: x.key = q4 at *
  have hput : putE x = q4 ++ (if 2 < x.kind then UInt8.ofNat x.label.toNat :: UInt8.ofNat x.val.length :: x.val else []) := by rw [← hp4, ← hp3, ← hp2, ← hp1, ← hp0]; rfl
  have hv12 := hk.v12
  refine c_seq ?_
  refine c_sreg rfl ?_
  refine s1 (r_fa h1) ?_
  refine s1 (r_ld rfl (mm.b 0 rfl) rfl) ?_
  refine s1 (r_gt rfl rfl) ?_
  refine wn ?_
  refine c_cond rfl (fun h => ?_) (fun h => (c_skip (t_n ?_)))
  · have hk2 : 2 < x.kind := by simpa using h
    rw [if_pos hk2] at hput
    refine c_draw mixed [(0, true), (1, true), (2, true), (3, true), (4, true), (5, true), (6, true), (7, true), (10, true), (11, true), (8, false), (9, false), (12, false), (13, true)] [true, true, true, true, true, true, true, true, true, true, true, true, true, true] (Sof (mm.pk [0] (by decide))) (by kernel_rfl) rfl rfl (by kernel_rfl) (fun w15 hc => ?_)
    have mm := mm.frame hc
    refine p1 rfl (fun w m => r_mvs (show _ = Value.slice a14 q4.length c14 by rw [hp4l]; rfl)) (mm.pk [0] (by decide)) ?_
    refine p1 rfl (fun w m => r_fa h1) (mm.pk [0] (by decide)) ?_
    refine p1 rfl (fun w m => r_ld rfl (m.b 0 rfl) rfl) (mm.pk [0] (by decide)) ?_
    refine p1 rfl (fun w m => r_cv rfl rfl) (mm.pk [0] (by decide)) ?_
    refine p1 rfl (fun w m => r_fa h1) (mm.pk [0] (by decide)) ?_
    refine p1 rfl (fun w m => r_ld rfl (m.b 0 rfl) rfl) (mm.pk [0] (by decide)) ?_
    refine p1 rfl (fun w m => r_slen rfl) (mm.pk [0] (by decide)) ?_
    refine p1 rfl (fun w m => r_cv rfl rfl) (mm.pk [0] (by decide)) ?_
    refine p1 rfl (fun w m => r_fa h1) (mm.pk [0] (by decide)) ?_
    refine p1 rfl (fun w m => r_ld rfl (m.b 0 rfl) rfl) (mm.pk [0] (by decide)) ?_
    refine po rfl (o_bi2 mm rfl rfl fun a16 c16 w16 mm => ⟨fun _ => (mm.sub [0] _ (by decide) rfl), ?_⟩)
    refine po rfl (o_ap mm 1 rfl rfl rfl (src_own mm 2 rfl rfl) (by omega) (by unfold maxLen; omega) fun a17 c17 w17 mm => ⟨fun _ => (mm.sub [0] _ (by decide) rfl), ?_⟩)
    refine po rfl (o_ap mm 1 rfl rfl rfl src_str (by omega) (by unfold maxLen; omega) fun a18 c18 w18 mm => ⟨fun _ => (mm.sub [0] _ (by decide) rfl), ?_⟩)
    refine p1 rfl (fun w m => r_ass rfl) (mm.pk [0] (by decide)) ?_
    refine pn (t_n ?_)
    rw [hput]
    have hp5l : (q4 ++ UInt8.ofNat x.label.toNat :: UInt8.ofNat x.val.length :: x.val).length = q4.length + 2 + x.val.length := by rw [List.length_append, List.length_cons, List.length_cons]; omega
    have mm := (mm.pk [0, 1] (by decide)).castp (n' := (q4 ++ UInt8.ofNat x.label.toNat :: UInt8.ofNat x.val.length :: x.val).length) (cs' := u8s (q4 ++ UInt8.ofNat x.label.toNat :: UInt8.ofNat x.val.length :: x.val)) hp5l.symm (by rw [u8s_append]; simp [u8s, u8_any, u8_int _ hk.l0])
    refine c_sreg rfl ?_
    refine s1 (r_mvs rfl) ?_
    refine s1 (r_ass rfl) ?_
    refine s1 (r_asi rfl) ?_
    refine wn ?_
    refine c_ret (ret2 rfl rfl rfl ⟨_, _, ?_, mm.chg, mm.isNew 1 rfl⟩)
    rw [hp5l]; rfl
  · have hk2 : ¬ 2 < x.kind := by simpa using h
    rw [if_neg hk2, List.append_nil] at hput
    rw [hput]
    refine c_sreg rfl ?_
    refine s1 (r_mvs (show _ = Value.slice a14 q4.length c14 by rw [hp4l]; rfl)) ?_
    refine s1 (r_ass rfl) ?_
    refine s1 (r_asi rfl) ?_
    refine wn ?_
    exact c_ret (ret2 rfl rfl rfl ⟨_, _, by rw [hp4l]; rfl, mm.chg, mm.isNew 1 rfl⟩)
end Go.Proofs.Ytgdbbaggkoillaa
/- kithref06's reader: walks. -/
namespace Go.Proofs.Ytgdbbaggkoillaa
open K
set_option maxRecDepth 100000
set_option maxHeartbeats 4000000

def rdI (q : Nat) (a : Option Addr) (n c : Nat) (at_ : Nat) (er : Int) : It := bk q [.slice a n c, .int .i64 (at_ : Nat), .int .i64 er] 120
section
variable {w0 w : World} {L : List It} {q c : Nat} {a : Option Addr} {s : List UInt8} {k p : Nat} {er : Int}
theorem c_rd1 (mm0 : Mem w0 No w L) (hk : nth L k = some (rdI q a s.length c p er)) (hp : p ≤ s.length) (hl : s.length ≤ 4611686018427387904) (H : Cells w0 a (u8s s)) (lo hi : Int) :
    Cl Try.prog 96 #[.pointer (some ⟨q, 0, none⟩), .int .i64 lo, .int .i64 hi] w
    (fun r w' => ∃ v p' er', r = .int .i64 v ∧ Mem w0 No w' (setN L k (rdI q a s.length c p' er')) ∧ p' ≤ s.length ∧ (er' = 0 → er = 0 ∧ lo ≤ v ∧ v ≤ hi) ∧ (∀ v0 t, er = 0 → tOne lo hi (s.drop p) 0 = (v0, t, 0) → v = v0 ∧ er' = 0 ∧ s.drop p' = t)) := by
  have mm := mm0.pick1 k hk
  have lift : ∀ {w' : World} {J : It}, Mem w (rdI q a s.length c p er).foot w' [J] → Mem w0 No w' (setN L k J) := fun h => mm0.lift1 k hk h
  have HH : ∀ {w' : World} {J : It}, Mem w (rdI q a s.length c p er).foot w' [J] → Cells w' a (u8s s) := fun h => (lift h).ro H
  clear hk mm0
  have mm : Mem w _ w [bk q [.slice a s.length c, .int .i64 (p : Nat), .int .i64 er] 120] := mm
  refine f_enter (args := [_, _, _]) Try.func96 rfl rfl ?_
  refine c_sreg rfl ?_
  refine s1 (r_asi rfl) ?_
  refine wn ?_
  refine c_seq ?_
  refine c_sreg rfl ?_
  refine s1 (r_mvp rfl) ?_
  refine s1 (r_nil rfl) ?_
  refine s1 (r_fa rfl) ?_
  refine s1 (r_ld rfl (mm.b 0 rfl) rfl) ?_
  refine s1 (r_ne rfl rfl) ?_
  refine wn ?_
  refine c_cond rfl (fun h => ?_) (fun h => (c_skip (t_n ?_)))
  · have her : er ≠ 0 := by simpa using h
    refine c_sreg rfl ?_
    refine s1 (r_asi rfl) ?_
    refine wn ?_
    exact c_ret (ret1 rfl rfl ⟨0, p, er, rfl, lift mm, hp, fun h => absurd h her, fun v0 t h => absurd h her⟩)
  have her : er = 0 := by simpa using h
  clear h
  refine c_seq ?_
  refine c_sdraw2 mixed [(0, some 0), (1, some 0), (2, some 0), (4, some 0), (5, some 0), (6, some 0), (3, some 2), (7, some 2), (8, some 2), (9, some 0)] [0, 0, 0, 0, 0, 0, 0, 2, 2, 0] (Sof mm) (Sof mm) (fun _ h => h) (by kernel_rfl) rfl rfl (by kernel_rfl) (fun w2 hc => ?_)
  have mm := mm.frame hc
  refine q01 rfl (fun w => r_mvp rfl) ?_
  refine q01 rfl (fun w => r_nil rfl) ?_
  refine q01 rfl (fun w => r_fa rfl) ?_
  refine q01 rfl (fun w => r_mvp rfl) ?_
  refine q01 rfl (fun w => r_nil rfl) ?_
  refine q01 rfl (fun w => r_fa rfl) ?_
  refine qA1 rfl (fun w m => r_ld rfl (m.b 0 rfl) rfl) mm ?_
  refine qA1 rfl (fun w m => r_ld rfl (m.b 0 rfl) rfl) mm ?_
  refine qA1 rfl (fun w m => r_len rfl) mm ?_
  refine q01 rfl (fun w => r_ge rfl rfl) ?_
  refine qn ?_
  refine c_cond rfl (fun h => ?_) (fun h => (c_skip (t_n ?_)))
  · have hpe : p = s.length := by simp at h; omega
    refine c_sreg rfl ?_
    refine s1 (r_mvp rfl) ?_
    refine s1 (r_nil rfl) ?_
    refine s1 (r_fa rfl) ?_
    refine ss (o_st mm 0 rfl rfl rfl rfl rfl fun w3 mm => ?_)
    refine wn ?_
    refine c_sreg rfl ?_
    refine s1 (r_asi rfl) ?_
    refine wn ?_
    refine c_ret (ret1 rfl rfl ⟨0, p, 2, rfl, lift mm, hp, fun h => absurd h (by decide), fun v0 t _ ht => ?_⟩)
    exfalso
    rw [hpe, List.drop_length] at ht
    cases ht
  have hpl : p < s.length := by simp at h; omega
  clear h
  refine c_sdraw2 mixed [(0, some 0), (1, some 0), (2, some 0), (4, some 0), (5, some 0), (6, some 0), (3, some 2), (7, some 2), (8, some 0), (9, some 2), (10, some 0), (11, some 0)] [0, 0, 0, 0, 0, 0, 0, 2, 0, 0, 0, 0] (Sof mm) (Sof mm) (fun _ h => h) (by kernel_rfl) rfl rfl (by kernel_rfl) (fun w4 hc => ?_)
  have mm := mm.frame hc
  refine q01 rfl (fun w => r_mvp rfl) ?_
  refine q01 rfl (fun w => r_nil rfl) ?_
  refine q01 rfl (fun w => r_fa rfl) ?_
  refine q01 rfl (fun w => r_mvp rfl) ?_
  refine q01 rfl (fun w => r_nil rfl) ?_
  refine q01 rfl (fun w => r_fa rfl) ?_
  refine qA1 rfl (fun w m => r_ld rfl (m.b 0 rfl) rfl) mm ?_
  refine qA1 rfl (fun w m => r_ld rfl (m.b 0 rfl) rfl) mm ?_
  refine q01 rfl (fun w => r_ix rfl rfl (by omega) (by omega) ((HH mm).some (nth_u8s s p hpl))) ?_
  refine qA1 rfl (fun w m => r_ldc rfl (HH m) (nth_u8s s p hpl)) mm ?_
  refine q01 rfl (fun w => r_cv rfl (wu8i _)) ?_
  refine q01 rfl (fun w => r_asi rfl) ?_
  refine qn ?_
  have hc8 := (s.getD p 0).toNat_lt
  have hdr : s.drop p = s.getD p 0 :: s.drop (p + 1) := drop_get s p hpl
  have hone : ∀ v0 t, tOne lo hi (s.drop p) 0 = (v0, t, 0) → v0 = ((s.getD p 0).toNat : Int) ∧ t = s.drop (p + 1) ∧ ¬ (((s.getD p 0).toNat : Int) < lo ∨ hi < ((s.getD p 0).toNat : Int)) := fun v0 t ht => by
    rw [hdr] at ht
    have ht : (((s.getD p 0).toNat : Int), s.drop (p + 1), if ((s.getD p 0).toNat : Int) < lo ∨ hi < ((s.getD p 0).toNat : Int) then (3 : Int) else 0) = (v0, t, 0) := ht
    injection ht with h1 h2
    injection h2 with h2 h3
    refine ⟨h1.symm, h2.symm, fun hh => ?_⟩
    rw [if_pos hh] at h3
    cases h3
  clear hdr
  generalize (s.getD p 0).toNat = x at *
  refine c_sreg rfl ?_
  refine s1 (r_mvp rfl) ?_
  refine s1 (r_mvp rfl) ?_
  refine s1 (r_nil rfl) ?_
  refine s1 (r_fa rfl) ?_
  refine s1 (r_ld rfl (mm.b 0 rfl) rfl) ?_
  refine s1 (r_add rfl rfl (show IntKind.i64.wrap (((p : Nat) : Int) + 1) = ((p + 1 : Nat) : Int) from by rw [wi (by omega) (by omega)]; omega)) ?_
  refine s1 (r_nil rfl) ?_
  refine s1 (r_fa rfl) ?_
  refine ss (o_st mm 0 rfl rfl rfl rfl rfl fun w5 mm => ?_)
  refine wn ?_
  have mm : Mem w _ _ [rdI q a s.length c (p + 1) er] := mm
  refine c_seq ?_
  refine c_sreg rfl ?_
  refine s1 (r_mvi rfl) ?_
  refine s1 (r_mvi rfl) ?_
  refine s1 (r_mvi rfl) ?_
  refine so (o_c3 rfl rfl rfl (c_in6 _ _ _ _) ?_)
  rintro _ w6 ⟨rfl, hc⟩
  have mm := mm.frame hc
  refine s1 (r_not rfl) ?_
  refine wn ?_
  refine c_cond rfl (fun h => ?_) (fun h => (c_skip (t_n ?_)))
  · have hne : ¬ (lo ≤ (x : Int) ∧ (x : Int) ≤ hi) := by simp at h; omega
    refine c_region rfl ?_
    refine s1 (r_mvp rfl) ?_
    refine s1 (r_nil rfl) ?_
    refine s1 (r_fa rfl) ?_
    refine ss (o_st mm 0 rfl rfl rfl rfl rfl fun w7 mm => ?_)
    refine wn (t_n ?_)
    refine c_sreg rfl ?_
    refine s1 (r_mvi rfl) ?_
    refine s1 (r_asi rfl) ?_
    refine wn ?_
    exact c_ret (ret1 rfl rfl ⟨_, p + 1, 3, rfl, lift mm, by omega, fun h => absurd h (by decide), fun v0 t _ ht => absurd (hone v0 t ht).2.2 (by omega)⟩)
  have hin : lo ≤ (x : Int) ∧ (x : Int) ≤ hi := by simp at h; omega
  clear h
  refine c_sreg rfl ?_
  refine s1 (r_mvi rfl) ?_
  refine s1 (r_asi rfl) ?_
  refine wn ?_
  exact c_ret (ret1 rfl rfl ⟨_, p + 1, er, rfl, lift mm, by omega, fun _ => ⟨her, hin⟩, fun v0 t _ ht => ⟨(hone v0 t ht).1.symm, her, (hone v0 t ht).2.1.symm⟩⟩)
theorem c_rdN (mm0 : Mem w0 No w L) (hk : nth L k = some (rdI q a s.length c p er)) (hp : p ≤ s.length) (hcc : s.length ≤ c) (hl : s.length ≤ 4611686018427387904) (H : Cells w0 a (u8s s)) (lo hi : Int) (hlo : 0 ≤ lo) (hlo2 : lo ≤ 4611686018427387904) (hhi : 0 ≤ hi) (hhi2 : hi ≤ 4611686018427387904) :
    Cl Try.prog 97 #[.pointer (some ⟨q, 0, none⟩), .int .i64 lo, .int .i64 hi] w
    (fun r w' => ∃ v p' er', r = .int .i64 v ∧ Mem w0 No w' (setN L k (rdI q a s.length c p' er')) ∧ p' ≤ s.length ∧ (er' = 0 → er = 0 ∧ lo ≤ v ∧ v ≤ hi) ∧ (∀ v0 t, er = 0 → tNum lo hi (s.drop p) 0 = (v0, t, 0) → v = v0 ∧ er' = 0 ∧ s.drop p' = t)) := by
  have mm := mm0.pick1 k hk
  have lift : ∀ {w' : World} {J : It}, Mem w (rdI q a s.length c p er).foot w' [J] → Mem w0 No w' (setN L k J) := fun h => mm0.lift1 k hk h
  have HH : ∀ {w' : World} {J : It}, Mem w (rdI q a s.length c p er).foot w' [J] → Cells w' a (u8s s) := fun h => (lift h).ro H
  clear hk mm0
  have mm : Mem w _ w [bk q [.slice a s.length c, .int .i64 (p : Nat), .int .i64 er] 120] := mm
  refine f_enter (args := [_, _, _]) Try.func97 rfl rfl ?_
  refine c_sreg rfl ?_
  refine s1 (r_asi rfl) ?_
  refine wn ?_
  refine c_seq ?_
  refine c_sreg rfl ?_
  refine s1 (r_mvp rfl) ?_
  refine s1 (r_nil rfl) ?_
  refine s1 (r_fa rfl) ?_
  refine s1 (r_ld rfl (mm.b 0 rfl) rfl) ?_
  refine s1 (r_ne rfl rfl) ?_
  refine wn ?_
  refine c_cond rfl (fun h => ?_) (fun h => (c_skip (t_n ?_)))
  · have her : er ≠ 0 := by simpa using h
    refine c_sreg rfl ?_
    refine s1 (r_asi rfl) ?_
    refine wn ?_
    exact c_ret (ret1 rfl rfl ⟨0, p, er, rfl, lift mm, hp, fun h => absurd h her, fun v0 t h => absurd h her⟩)
  have her : er = 0 := by simpa using h
  clear h
  have hd := fun w' (mm : Mem w (rdI q a s.length c p er).foot w' [rdI q a s.length c p er]) => Sl.drop (HH mm) hcc p hp
  have hdl : (s.drop p).length = s.length - p := List.length_drop
  refine c_sdraw2 mixed [(0, some 0), (1, some 0), (2, some 0), (4, some 0), (5, some 0), (6, some 0), (3, some 2), (7, some 2), (8, some 0), (9, none), (10, some 0), (11, some 0), (12, some 0), (13, some 0), (14, some 0), (15, some 0), (16, some 0)] [0, 0, 0, 0, 0, 0, 0, 2, 0, 0, 0, 0, 0, 0, 0, 0, 0] (Sof mm) (Sof mm) (fun _ h => h) (by kernel_rfl) rfl rfl (by kernel_rfl) (fun w2 hc => ?_)
  have mm := mm.frame hc
  refine q01 rfl (fun w => r_mvp rfl) ?_
  refine q01 rfl (fun w => r_nil rfl) ?_
  refine q01 rfl (fun w => r_fa rfl) ?_
  refine q01 rfl (fun w => r_mvp rfl) ?_
  refine q01 rfl (fun w => r_nil rfl) ?_
  refine q01 rfl (fun w => r_fa rfl) ?_
  refine qA1 rfl (fun w m => r_ld rfl (m.b 0 rfl) rfl) mm ?_
  refine qA1 rfl (fun w m => r_ld rfl (m.b 0 rfl) rfl) mm ?_
  refine q01 rfl (fun w => r_sll rfl rfl (by omega) (by omega)) ?_
  refine qo rfl (o_c1 rfl (c_take01 (s.drop p) (by omega) _ _ (hd _ mm)) ?_)
  rintro _ w3 ⟨n, j, cd, rfl, hcase, hc⟩
  have mm := mm.frame hc
  refine ⟨trivial, ?_⟩
  refine q01 rfl (fun w => r_mvu rfl) ?_
  refine q01 rfl (fun w => r_exti rfl rfl) ?_
  refine q01 rfl (fun w => r_exti rfl rfl) ?_
  refine q01 rfl (fun w => r_exti rfl rfl) ?_
  refine q01 rfl (fun w => r_asi rfl) ?_
  refine q01 rfl (fun w => r_asi rfl) ?_
  refine q01 rfl (fun w => r_asi rfl) ?_
  refine qn ?_
  refine c_seq ?_
  refine c_sreg rfl ?_
  refine s1 (r_mvi rfl) ?_
  refine s1 (r_ne rfl rfl) ?_
  refine wn ?_
  refine c_cond rfl (fun h => ?_) (fun h => (c_skip (t_n ?_)))
  · have hcd : cd ≠ 0 := by simpa using h
    obtain ⟨_, _, _, hv⟩ := hcase.resolve_left (fun hh => hcd hh.1)
    refine c_sreg rfl ?_
    refine s1 (r_mvp rfl) ?_
    refine s1 (r_mvi rfl) ?_
    refine s1 (r_nil rfl) ?_
    refine s1 (r_fa rfl) ?_
    refine ss (o_st mm 0 rfl rfl rfl rfl rfl fun w4 mm => ?_)
    refine wn ?_
    refine c_sreg rfl ?_
    refine s1 (r_asi rfl) ?_
    refine wn ?_
    refine c_ret (ret1 rfl rfl ⟨0, p, cd, rfl, lift mm, hp, fun h => absurd h hcd, fun v0 t _ ht => ?_⟩)
    exfalso
    unfold tNum at ht
    rw [if_pos (.inr hv), if_pos rfl] at ht
    injection ht with _ ht
    injection ht with _ ht
    exact hv ht
  have hcd : cd = 0 := by simpa using h
  subst hcd
  clear h
  have hv : vtake (s.drop p) = (n, j, 0) := by
    rcases hcase with hh | hh
    · exact hh.2
    · exact absurd rfl hh.1
  obtain ⟨_, _, hj, _⟩ := vtake_ok hv
  have hn64 := vtake_lt hv
  have hnum : ∀ v0 t, tNum lo hi (s.drop p) 0 = (v0, t, 0) → v0 = IntKind.i64.wrap (n : Int) ∧ t = s.drop (p + j) ∧ ¬ ((n : Int) < lo ∨ hi < (n : Int)) := fun v0 t ht => by
    unfold tNum at ht
    rw [hv, if_neg (by simp)] at ht
    injection ht with h1 h2
    injection h2 with h2 h3
    refine ⟨h1.symm, ?_, fun hh => ?_⟩
    · rw [← h2]; simp only [List.drop_drop]
    · rw [if_pos hh] at h3
      cases h3
  refine c_sreg rfl ?_
  refine s1 (r_mvp rfl) ?_
  refine s1 (r_mvp rfl) ?_
  refine s1 (r_nil rfl) ?_
  refine s1 (r_fa rfl) ?_
  refine s1 (r_ld rfl (mm.b 0 rfl) rfl) ?_
  refine s1 (r_mvi rfl) ?_
  refine s1 (r_add rfl rfl (show IntKind.i64.wrap (((p : Nat) : Int) + ((j : Nat) : Int)) = ((p + j : Nat) : Int) from by rw [wi (by omega) (by omega)]; omega)) ?_
  refine s1 (r_nil rfl) ?_
  refine s1 (r_fa rfl) ?_
  refine ss (o_st mm 0 rfl rfl rfl rfl rfl fun w5 mm => ?_)
  refine wn ?_
  have mm : Mem w _ _ [rdI q a s.length c (p + j) er] := mm
  refine c_seq ?_
  refine c_sreg rfl ?_
  refine s1 (r_mvi rfl) ?_
  refine s1 (r_mvi rfl) ?_
  refine s1 (r_cv rfl (wu64 (by omega) (by omega))) ?_
  refine s1 (r_lt rfl rfl) ?_
  refine s1 (r_mvb rfl) ?_
  refine sF rfl rfl (fun h => r_mvi rfl) ?_
  refine sF rfl rfl (fun h => r_mvi rfl) ?_
  refine sF rfl rfl (fun h => r_cv (sel_t h :) (wu64 (by omega) (by omega))) ?_
  refine sF rfl rfl (fun h => r_gt (sel_t h :) (sel_t h :)) ?_
  refine s1 (r_or rfl rfl) ?_
  refine wn ?_
  refine c_cond rfl (fun h => ?_) (fun h => (c_skip (t_n ?_)))
  · have hne : (n : Int) < lo ∨ hi < (n : Int) := by simp at h; omega
    refine c_sreg rfl ?_
    refine s1 (r_mvp rfl) ?_
    refine s1 (r_nil rfl) ?_
    refine s1 (r_fa rfl) ?_
    refine ss (o_st mm 0 rfl rfl rfl rfl rfl fun w6 mm => ?_)
    refine wn ?_
    refine c_sreg rfl ?_
    refine s1 (r_asi rfl) ?_
    refine wn ?_
    exact c_ret (ret1 rfl rfl ⟨_, p + j, 3, rfl, lift mm, by omega, fun h => absurd h (by decide), fun v0 t _ ht => absurd hne (hnum v0 t ht).2.2⟩)
  have hin : lo ≤ (n : Int) ∧ (n : Int) ≤ hi := by simp at h; omega
  clear h
  refine c_sreg rfl ?_
  refine s1 (r_mvi rfl) ?_
  refine s1 (r_cv rfl (wi (by omega) (by omega))) ?_
  refine s1 (r_asi rfl) ?_
  refine wn ?_
  refine c_ret (ret1 rfl rfl ⟨(n : Int), p + j, er, rfl, lift mm, by omega, fun _ => ⟨her, hin⟩, fun v0 t _ ht => ⟨?_, her, (hnum v0 t ht).2.1.symm⟩⟩)
  rw [(hnum v0 t ht).1, wi (by omega) (by omega)]
theorem c_rdW (mm0 : Mem w0 No w L) (hk : nth L k = some (rdI q a s.length c p er)) (hp : p ≤ s.length) (hcc : s.length ≤ c) (hl : s.length ≤ 4611686018427387904) (H : Cells w0 a (u8s s)) (n : Int) (hn : er = 0 → 0 ≤ n) :
    Cl Try.prog 98 #[.pointer (some ⟨q, 0, none⟩), .int .i64 n] w
    (fun r w' => ∃ v p' er', r = str v ∧ Mem w0 No w' (setN L k (rdI q a s.length c p' er')) ∧ p' ≤ s.length ∧ (er' = 0 → er = 0) ∧ (∀ x t, er = 0 → s.drop p = x ++ t → n = x.length → v = x ∧ er' = 0 ∧ s.drop p' = t)) := by
  have mm := mm0.pick1 k hk
  have lift : ∀ {w' : World} {J : It}, Mem w (rdI q a s.length c p er).foot w' [J] → Mem w0 No w' (setN L k J) := fun h => mm0.lift1 k hk h
  have HH : ∀ {w' : World} {J : It}, Mem w (rdI q a s.length c p er).foot w' [J] → Cells w' a (u8s s) := fun h => (lift h).ro H
  clear hk mm0
  have mm : Mem w _ w [bk q [.slice a s.length c, .int .i64 (p : Nat), .int .i64 er] 120] := mm
  refine f_enter (args := [_, _]) Try.func98 rfl rfl ?_
  refine c_sreg rfl ?_
  refine s1 (r_ast rfl) ?_
  refine wn ?_
  refine c_seq ?_
  refine c_sreg rfl ?_
  refine s1 (r_mvp rfl) ?_
  refine s1 (r_nil rfl) ?_
  refine s1 (r_fa rfl) ?_
  refine s1 (r_ld rfl (mm.b 0 rfl) rfl) ?_
  refine s1 (r_ne rfl rfl) ?_
  refine wn ?_
  refine c_cond rfl (fun h => ?_) (fun h => (c_skip (t_n ?_)))
  · have her : er ≠ 0 := by simpa using h
    refine c_sreg rfl ?_
    refine s1 (r_ast rfl) ?_
    refine wn ?_
    exact c_ret (ret1 rfl rfl ⟨[], p, er, rfl, lift mm, hp, fun h => absurd h her, fun x t h => absurd h her⟩)
  have her : er = 0 := by simpa using h
  clear h
  have hn0 := hn her
  refine c_seq ?_
  refine c_sdraw2 mixed [(0, some 0), (1, some 0), (2, some 0), (5, some 0), (6, some 0), (7, some 0), (10, some 0), (3, some 2), (4, some 0), (8, some 2), (9, some 0), (11, some 0)] [0, 0, 0, 0, 0, 0, 0, 0, 2, 0, 0, 0] (Sof mm) (Sof mm) (fun _ h => h) (by kernel_rfl) rfl rfl (by kernel_rfl) (fun w2 hc => ?_)
  have mm := mm.frame hc
  refine q01 rfl (fun w => r_mvp rfl) ?_
  refine q01 rfl (fun w => r_nil rfl) ?_
  refine q01 rfl (fun w => r_fa rfl) ?_
  refine q01 rfl (fun w => r_mvp rfl) ?_
  refine q01 rfl (fun w => r_nil rfl) ?_
  refine q01 rfl (fun w => r_fa rfl) ?_
  refine q01 rfl (fun w => r_mvi rfl) ?_
  refine qA1 rfl (fun w m => r_ld rfl (m.b 0 rfl) rfl) mm ?_
  refine q01 rfl (fun w => r_len rfl) ?_
  refine qA1 rfl (fun w m => r_ld rfl (m.b 0 rfl) rfl) mm ?_
  refine q01 rfl (fun w => r_sub rfl rfl (wi (by omega) (by omega))) ?_
  refine q01 rfl (fun w => r_lt rfl rfl) ?_
  refine qn ?_
  refine c_cond rfl (fun h => ?_) (fun h => (c_skip (t_n ?_)))
  · have hlt : (s.length : Int) - p < n := by simp at h; omega
    refine c_sreg rfl ?_
    refine s1 (r_mvp rfl) ?_
    refine s1 (r_nil rfl) ?_
    refine s1 (r_fa rfl) ?_
    refine ss (o_st mm 0 rfl rfl rfl rfl rfl fun w3 mm => ?_)
    refine wn ?_
    refine c_sreg rfl ?_
    refine s1 (r_ast rfl) ?_
    refine wn ?_
    refine c_ret (ret1 rfl rfl ⟨[], p, 2, rfl, lift mm, hp, fun h => absurd h (by decide), fun x t _ hx hnx => ?_⟩)
    exfalso
    have := congrArg List.length hx
    rw [List.length_drop, List.length_append] at this
    omega
  have hge : n ≤ (s.length : Int) - p := by simp at h; omega
  obtain ⟨jn, rfl⟩ := Int.eq_ofNat_of_zero_le hn0
  clear h
  have hc41 : ∀ {w' : World} {J : It}, Mem w (rdI q a s.length c p er).foot w' [J] → Cells w' (slA a c p 1) (u8s ((s.drop p).take jn)) := fun h => by
    have h1 := Cells.sl (HH h) (n := s.length) (sz := 1) (by rw [u8s_length]; omega) hcc p
    have h2 : (u8s s).drop (p * 1) = u8s (s.drop p) := by rw [Nat.mul_one, u8s, u8s, List.map_drop]
    rw [h2] at h1
    have h3 := h1.take jn
    have h4 : (u8s (s.drop p)).take jn = u8s ((s.drop p).take jn) := by rw [u8s, u8s, List.map_take]
    rwa [h4] at h3
  have hl41 : ((s.drop p).take jn).length = jn := by rw [List.length_take, List.length_drop]; omega
  refine c_sdraw2 mixed [(0, some 0), (1, some 0), (2, some 0), (4, some 0), (5, some 0), (6, some 0), (8, some 0), (9, some 0), (10, some 0), (12, some 0), (3, some 2), (7, some 2), (11, some 2), (13, some 2), (14, some 0), (15, some 2), (16, some 0)] [0, 0, 0, 0, 0, 0, 0, 2, 0, 0, 0, 2, 0, 2, 0, 0, 0] (Sof mm) (Sof mm) (fun _ h => h) (by kernel_rfl) rfl rfl (by kernel_rfl) (fun w4 hc => ?_)
  have mm := mm.frame hc
  refine q01 rfl (fun w => r_mvp rfl) ?_
  refine q01 rfl (fun w => r_nil rfl) ?_
  refine q01 rfl (fun w => r_fa rfl) ?_
  refine q01 rfl (fun w => r_mvp rfl) ?_
  refine q01 rfl (fun w => r_nil rfl) ?_
  refine q01 rfl (fun w => r_fa rfl) ?_
  refine q01 rfl (fun w => r_mvp rfl) ?_
  refine q01 rfl (fun w => r_nil rfl) ?_
  refine q01 rfl (fun w => r_fa rfl) ?_
  refine q01 rfl (fun w => r_mvi rfl) ?_
  refine qA1 rfl (fun w m => r_ld rfl (m.b 0 rfl) rfl) mm ?_
  refine qA1 rfl (fun w m => r_ld rfl (m.b 0 rfl) rfl) mm ?_
  refine qA1 rfl (fun w m => r_ld rfl (m.b 0 rfl) rfl) mm ?_
  refine qA1 rfl (fun w m => r_add rfl rfl (show IntKind.i64.wrap (((p : Nat) : Int) + ((jn : Nat) : Int)) = ((p + jn : Nat) : Int) from by rw [wi (by omega) (by omega)]; omega)) mm ?_
  refine q01 rfl (fun w => r_slb rfl rfl rfl (by omega) (by omega) (by omega)) ?_
  refine qA1 rfl (fun w m => r_b2s rfl (hc41 m) (by rw [hl41]; omega)) mm ?_
  refine q01 rfl (fun w => r_ast rfl) ?_
  refine qn ?_
  refine c_sreg rfl ?_
  refine s1 (r_mvp rfl) ?_
  refine s1 (r_mvp rfl) ?_
  refine s1 (r_nil rfl) ?_
  refine s1 (r_fa rfl) ?_
  refine s1 (r_ld rfl (mm.b 0 rfl) rfl) ?_
  refine s1 (r_mvi rfl) ?_
  refine s1 (r_add rfl rfl (show IntKind.i64.wrap (((p : Nat) : Int) + ((jn : Nat) : Int)) = ((p + jn : Nat) : Int) from by rw [wi (by omega) (by omega)]; omega)) ?_
  refine s1 (r_nil rfl) ?_
  refine s1 (r_fa rfl) ?_
  refine ss (o_st mm 0 rfl rfl rfl rfl rfl fun w5 mm => ?_)
  refine wn ?_
  have mm : Mem w _ _ [rdI q a s.length c (p + jn) er] := mm
  refine c_sreg rfl ?_
  refine s1 (r_mvt rfl) ?_
  refine s1 (r_ast rfl) ?_
  refine wn ?_
  refine c_ret (ret1 rfl rfl ⟨(s.drop p).take jn, p + jn, er, rfl, lift mm, by omega, fun _ => her, fun x t _ hx hnx => ?_⟩)
  have hm : jn = x.length := by omega
  rw [← List.drop_drop, hx, hm]
  exact ⟨List.take_left, her, List.drop_left⟩
end
end Go.Proofs.Ytgdbbaggkoillaa
