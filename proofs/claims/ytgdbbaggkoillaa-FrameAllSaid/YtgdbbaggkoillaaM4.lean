/- What the functions of varint, clock, text, event come to: walks. -/
import Derived.Test.YtgdbbaggkoillaaM3
import Derived.Test.YtgdbbaggkoillaaM2
namespace Go.Proofs.Ytgdbbaggkoillaa
open K
set_option maxRecDepth 100000

theorem c_tLabel (n : Int) (w : World) : Cl Try.prog 76 #[.int .i64 n] w (fun v w' => v = .int .i64 (tLabel n) ∧ Chg No w w') := by
  refine f_enter (args := [_]) Try.func76 rfl rfl ?_
  refine c_sreg rfl ?_
  refine s1 (r_asi rfl) ?_
  refine wn ?_
  refine c_seq ?_
  refine c_sreg rfl ?_
  refine s1 (r_mvi rfl) ?_
  refine s1 (r_lt rfl rfl) ?_
  refine s1 (r_mvb rfl) ?_
  refine sF rfl rfl (fun h => r_mvi rfl) ?_
  refine sF rfl rfl (fun h => r_ge (sel_t h :) rfl) ?_
  refine s1 (r_or rfl rfl) ?_
  refine wn ?_
  refine c_cond rfl (fun h => ?_) (fun h => (c_skip (t_n ?_)))
  · refine c_sreg rfl ?_
    refine s1 (r_asi rfl) ?_
    refine wn ?_
    refine c_ret (ret1 rfl rfl ⟨congrArg (Value.int .i64) ?_, Chg.refl _ _⟩)
    simp at h
    exact (if_neg (by omega)).symm
  · refine c_sreg rfl ?_
    refine s1 (r_asi rfl) ?_
    refine wn ?_
    refine c_ret (ret1 rfl rfl ⟨congrArg (Value.int .i64) ?_, Chg.refl _ _⟩)
    simp at h
    exact (if_pos (by omega)).symm

theorem c_tValue (s : List UInt8) (w : World) : Cl Try.prog 77 #[str s] w (fun v w' => v = .int .i64 (tValue s) ∧ Chg No w w') := by
  refine f_enter (args := [_]) Try.func77 rfl rfl ?_
  refine c_sreg rfl ?_
  refine s1 (r_asi rfl) ?_
  refine wn ?_
  refine c_seq ?_
  refine c_sreg rfl ?_
  refine s1 (r_mvt rfl) ?_
  refine s1 (r_slen rfl) ?_
  refine s1 (r_lt rfl rfl) ?_
  refine s1 (r_mvb rfl) ?_
  refine sF rfl rfl (fun h => r_mvt rfl) ?_
  refine sF rfl rfl (fun h => r_slen (sel_t h :)) ?_
  refine sF rfl rfl (fun h => r_gt (sel_t h :) rfl) ?_
  refine s1 (r_or rfl rfl) ?_
  refine wn ?_
  refine c_cond rfl (fun h => ?_) (fun h => (c_skip (t_n ?_)))
  · refine c_sreg rfl ?_
    refine s1 (r_asi rfl) ?_
    refine wn ?_
    refine c_ret (ret1 rfl rfl ⟨congrArg (Value.int .i64) ?_, Chg.refl _ _⟩)
    simp at h
    exact (if_neg (by omega)).symm
  · refine c_sreg rfl ?_
    refine s1 (r_asi rfl) ?_
    refine wn ?_
    refine c_ret (ret1 rfl rfl ⟨congrArg (Value.int .i64) ?_, Chg.refl _ _⟩)
    simp at h
    exact (if_pos (by omega)).symm

theorem c_tBare (x : Ed) (w : World) : Cl Try.prog 75 #[.agg (edC x).toArray] w (fun v w' => v = .int .i64 (tBare x) ∧ Chg No w w') := by
  refine f_enter (args := [_]) Try.func75 rfl rfl ?_
  have mm := Mem.nil No w
  refine c_sreg rfl ?_
  refine so (o_bxa mm rfl fun b2 w2 mm => ?_)
  refine s1 (r_asi rfl) ?_
  refine wn ?_
  refine c_seq ?_
  refine c_block ?_
  refine c_sreg rfl ?_
  refine s1 (r_fa rfl) ?_
  refine s1 (r_ld rfl (mm.b 0 rfl) rfl) ?_
  refine s1 (r_ne rfl rfl) ?_
  refine s1 (r_asb rfl) ?_
  refine wn ?_
  refine c_cond rfl (fun h => ?_) (fun h => ?_)
  · refine c_sreg rfl ?_
    refine s1 (r_asi rfl) ?_
    refine wn ?_
    refine c_ret (ret1 rfl rfl ⟨congrArg (Value.int .i64) ?_, mm.chg⟩)
    simp at h
    exact (if_pos h).symm
  · refine c_sreg rfl ?_
    refine s1 (r_fa rfl) ?_
    refine s1 (r_ld rfl (mm.b 0 rfl) rfl) ?_
    refine s1 (r_sne rfl rfl) ?_
    refine s1 (r_asb rfl) ?_
    refine wn ?_
    refine c_cond rfl (fun h2 => ?_) (fun h2 => (c_skip (b_n (t_n ?_))))
    · refine c_sreg rfl ?_
      refine s1 (r_asi rfl) ?_
      refine wn ?_
      refine c_ret (ret1 rfl rfl ⟨congrArg (Value.int .i64) ?_, mm.chg⟩)
      simp at h h2
      exact ((if_neg (by omega)).trans (if_pos h2)).symm
    · refine c_sreg rfl ?_
      refine s1 (r_asi rfl) ?_
      refine wn ?_
      refine c_ret (ret1 rfl rfl ⟨congrArg (Value.int .i64) ?_, mm.chg⟩)
      simp at h h2
      exact ((if_neg (by omega)).trans (if_neg (by simp [h2]))).symm
theorem c_tKey (s : List UInt8) (w : World) : Cl Try.prog 54 #[str s] w (fun v w' => v = .int .i64 (tKey s) ∧ Chg No w w') := by
  refine f_enter (args := [_]) Try.func54 rfl rfl ?_
  have mm := Mem.nil No w
  refine c_sreg rfl ?_
  refine s1 (r_asi rfl) ?_
  refine wn ?_
  refine c_seq ?_
  refine c_sreg rfl ?_
  refine s1 (r_mvt rfl) ?_
  refine s1 (r_slen rfl) ?_
  refine s1 (r_lt rfl rfl) ?_
  refine s1 (r_mvb rfl) ?_
  refine sF rfl rfl (fun h => r_mvt rfl) ?_
  refine sF rfl rfl (fun h => r_slen (sel_t h :)) ?_
  refine sF rfl rfl (fun h => r_gt (sel_t h :) rfl) ?_
  refine s1 (r_or rfl rfl) ?_
  refine wn ?_
  refine c_cond rfl (fun h => ?_) (fun h => (c_skip (t_n ?_)))
  · refine c_sreg rfl ?_
    refine s1 (r_asi rfl) ?_
    refine wn ?_
    refine c_ret (ret1 rfl rfl ⟨congrArg (Value.int .i64) ?_, mm.chg⟩)
    simp at h
    exact (if_neg (by simp [keyOk]; omega)).symm
  have hl : 1 ≤ s.length ∧ s.length ≤ 8 := by simp at h; omega
  clear h
  refine c_seq ?_
  refine c_sreg rfl ?_
  refine s1 (r_mvt rfl) ?_
  refine so (o_rg mm rfl fun b2 w2 mm => ?_)
  refine wn ?_
  refine c_block ?_
  refine c_loop (fun k e w' => ∃ p, k + p = s.length ∧ e 14 = .pointer (some ⟨b2, 0, none⟩) ∧ Mem w No w' [si b2 ⟨s.toArray⟩ p] ∧ (s.take p).all okByte = true) s.length ?_ ?_
  · exact ⟨0, by omega, rfl, mm, rfl⟩
  rintro k e w3 ⟨p, hkp, h14, mm, hall⟩
  by_cases hp : p < s.length
  · have htk : s.take (p + 1) = s.take p ++ [s[p]] := by rw [List.take_succ_eq_append_getElem hp]
    refine c_sreg rfl ?_
    refine so (o_nx1 mm 0 rfl h14 hp fun w4 mm => ?_)
    refine s1 (r_extb rfl rfl) ?_
    refine wn ?_
    refine c_seq ?_
    refine c_cond rfl (fun _h => (c_skip (t_n ?_))) (fun _h => (c_exit (t_x (t_x (b_x (t_n ?_))))))
    rotate_left
    · cases _h
    refine c_block ?_
    refine c_sreg rfl ?_
    refine s1 (r_exti rfl rfl) ?_
    refine s1 (r_asi rfl) ?_
    refine wn ?_
    refine c_sreg rfl ?_
    refine s1 (r_mvi rfl) ?_
    refine s1 (r_lt rfl rfl) ?_
    refine s1 (r_mvb rfl) ?_
    refine sF rfl rfl (fun h => r_mvi rfl) ?_
    refine sF rfl rfl (fun h => r_gt (sel_t h :) rfl) ?_
    refine s1 (r_or rfl rfl) ?_
    refine wn ?_
    refine c_cond rfl (fun h => ?_) (fun h => (c_skip (b_n (t_n ?_))))
    · refine c_sreg rfl ?_
      refine s1 (r_asi rfl) ?_
      refine wn ?_
      refine c_ret (ret1 rfl rfl ⟨congrArg (Value.int .i64) ?_, mm.chg⟩)
      refine (if_neg ?_).symm
      intro hk
      simp only [keyOk, Bool.and_eq_true, List.all_eq_true] at hk
      have hb := hk.2 s[p] (List.getElem_mem hp)
      simp only [okByte, Bool.and_eq_true, decide_eq_true_eq] at hb
      rw [decode_low s p hp (by omega)] at h
      simp at h
      omega
    · refine ⟨k - (Utf8.decode ⟨s.toArray⟩ p).2, ?_, p + (Utf8.decode ⟨s.toArray⟩ p).2, ?_, h14, mm, ?_⟩
      all_goals
        have hb : s[p].toNat < 128 := by
          rcases Nat.lt_or_ge s[p].toNat 128 with hb | hb
          · exact hb
          · have := decode_hi s p hp hb
            simp at h
            omega
        rw [decode_low s p hp hb] at h ⊢
        simp at h
      · omega
      · simp only; omega
      · rw [htk, List.all_append, hall]
        simp only [List.all_cons, List.all_nil, okByte, Bool.true_and, Bool.and_true, Bool.and_eq_true, decide_eq_true_eq]
        omega
  · refine c_sreg rfl ?_
    refine so (o_nx0 mm 0 rfl h14 (by omega) ?_)
    refine s1 (r_extb rfl rfl) ?_
    refine wn ?_
    refine c_seq ?_
    refine c_cond rfl (fun _h => (c_skip (t_n ?_))) (fun _h => (c_exit (t_x (t_x (b_x (t_n ?_))))))
    · cases _h
    refine c_sreg rfl ?_
    refine s1 (r_asi rfl) ?_
    refine wn ?_
    refine c_ret (ret1 rfl rfl ⟨congrArg (Value.int .i64) ?_, mm.chg⟩)
    rw [List.take_of_length_le (by omega)] at hall
    exact (if_pos (by simp [keyOk, hl, hall])).symm

theorem c_tEdit (x : Ed) (w : World) : Cl Try.prog 48 #[.agg (edC x).toArray] w (fun v w' => v = .int .i64 (tEdit x) ∧ Chg No w w') := by
  refine f_enter (args := [_]) Try.func48 rfl rfl ?_
  have mm := Mem.nil No w
  refine c_sreg rfl ?_
  refine so (o_bxa mm rfl fun b2 w2 mm => ?_)
  refine s1 (r_asi rfl) ?_
  refine wn ?_
  refine c_seq ?_
  refine c_sreg rfl ?_
  refine s1 (r_fa rfl) ?_
  refine s1 (r_ld rfl (mm.b 0 rfl) rfl) ?_
  refine s1 (r_lt rfl rfl) ?_
  refine s1 (r_mvb rfl) ?_
  refine sF rfl rfl (fun h => r_fa rfl) ?_
  refine sF rfl rfl (fun h => r_ld (sel_t h :) (mm.b 0 rfl) rfl) ?_
  refine sF rfl rfl (fun h => r_gt (sel_t h :) rfl) ?_
  refine s1 (r_or rfl rfl) ?_
  refine wn ?_
  refine c_cond rfl (fun h => ?_) (fun h => (c_skip (t_n ?_)))
  · refine c_sreg rfl ?_
    refine s1 (r_asi rfl) ?_
    refine wn ?_
    refine c_ret (ret1 rfl rfl ⟨congrArg (Value.int .i64) ?_, mm.chg⟩)
    simp at h
    exact (if_pos h).symm
  have h1 : ¬ (x.kind < 1 ∨ 5 < x.kind) := by simp at h; omega
  clear h
  refine c_seq ?_
  refine c_sreg rfl ?_
  refine s1 (r_fa rfl) ?_
  refine s1 (r_ld rfl (mm.b 0 rfl) rfl) ?_
  refine so (o_c1 rfl (c_tKey x.key _) ?_)
  rintro _ w3 ⟨rfl, hc⟩
  have mm := mm.frame hc
  refine s1 (r_asi rfl) ?_
  refine wn ?_
  refine c_sreg rfl ?_
  refine s1 (r_mvi rfl) ?_
  refine s1 (r_ne rfl rfl) ?_
  refine wn ?_
  refine c_cond rfl (fun h => ?_) (fun h => (c_skip (t_n ?_)))
  · refine c_sreg rfl ?_
    refine s1 (r_mvi rfl) ?_
    refine s1 (r_asi rfl) ?_
    refine wn ?_
    refine c_ret (ret1 rfl rfl ⟨congrArg (Value.int .i64) ?_, mm.chg⟩)
    simp at h
    exact ((if_neg h1).trans (if_pos h)).symm
  have h2 : ¬ tKey x.key ≠ 0 := by simp at h; simp [h]
  clear h
  refine c_seq ?_
  refine c_sreg rfl ?_
  refine s1 (r_fa rfl) ?_
  refine s1 (r_ld rfl (mm.b 0 rfl) rfl) ?_
  refine s1 (r_le rfl rfl) ?_
  refine wn ?_
  refine c_cond rfl (fun h => ?_) (fun h => (c_skip (t_n ?_)))
  · refine c_sreg rfl ?_
    refine s1 (r_lda rfl (mm.b 0 rfl) rfl) ?_
    refine so (o_c1 rfl (c_tBare x _) ?_)
    rintro _ w4 ⟨rfl, hc⟩
    have mm := mm.frame hc
    refine s1 (r_asi rfl) ?_
    refine wn ?_
    refine c_ret (ret1 rfl rfl ⟨congrArg (Value.int .i64) ?_, mm.chg⟩)
    simp at h
    exact ((if_neg h1).trans ((if_neg h2).trans (if_pos h))).symm
  have h3 : ¬ x.kind ≤ 2 := by simp at h; omega
  clear h
  refine c_seq ?_
  refine c_sreg rfl ?_
  refine s1 (r_fa rfl) ?_
  refine s1 (r_ld rfl (mm.b 0 rfl) rfl) ?_
  refine so (o_c1 rfl (c_tLabel x.label _) ?_)
  rintro _ w5 ⟨rfl, hc⟩
  have mm := mm.frame hc
  refine s1 (r_asi rfl) ?_
  refine wn ?_
  refine c_sreg rfl ?_
  refine s1 (r_mvi rfl) ?_
  refine s1 (r_ne rfl rfl) ?_
  refine wn ?_
  refine c_cond rfl (fun h => ?_) (fun h => (c_skip (t_n ?_)))
  · refine c_sreg rfl ?_
    refine s1 (r_mvi rfl) ?_
    refine s1 (r_asi rfl) ?_
    refine wn ?_
    refine c_ret (ret1 rfl rfl ⟨congrArg (Value.int .i64) ?_, mm.chg⟩)
    simp at h
    exact ((if_neg h1).trans ((if_neg h2).trans ((if_neg h3).trans (if_pos h)))).symm
  have h4 : ¬ tLabel x.label ≠ 0 := by simp at h; simp [h]
  clear h
  refine c_sreg rfl ?_
  refine s1 (r_fa rfl) ?_
  refine s1 (r_ld rfl (mm.b 0 rfl) rfl) ?_
  refine so (o_c1 rfl (c_tValue x.val _) ?_)
  rintro _ w6 ⟨rfl, hc⟩
  have mm := mm.frame hc
  refine s1 (r_asi rfl) ?_
  refine wn ?_
  refine c_ret (ret1 rfl rfl ⟨congrArg (Value.int .i64) ?_, mm.chg⟩)
  exact ((if_neg h1).trans ((if_neg h2).trans ((if_neg h3).trans (if_neg h4)))).symm

theorem c_cIs (r : Int) (w : World) : Cl Try.prog 78 #[.int .i64 r] w (fun v w' => v = .bool (decide (0 ≤ r) && decide (r < 5)) ∧ Chg No w w') := by
  refine f_enter (args := [_]) Try.func78 rfl rfl ?_
  refine c_sreg rfl ?_
  refine s1 (r_asb rfl) ?_
  refine wn ?_
  refine c_sreg rfl ?_
  refine s1 (r_mvi rfl) ?_
  refine s1 (r_ge rfl rfl) ?_
  refine s1 (r_mvb rfl) ?_
  refine sT rfl rfl (fun h => r_mvi rfl) ?_
  refine sT rfl rfl (fun h => r_lt (sel_t h :) rfl) ?_
  refine s1 (r_and rfl rfl) ?_
  refine s1 (r_asb rfl) ?_
  refine wn ?_
  exact c_ret (ret1 rfl rfl ⟨rfl, Chg.refl _ _⟩)

theorem c_cHas (c : Clk) (r n : Int) (w : World) : Cl Try.prog 49 #[.agg (clkC c).toArray, .int .i64 r, .int .i64 n] w (fun v w' => v = .bool (cHas c r n) ∧ Chg No w w') := by
  refine f_enter (args := [_, _, _]) Try.func49 rfl rfl ?_
  have mm := Mem.nil No w
  refine c_sreg rfl ?_
  refine so (o_bxa mm rfl fun b2 w2 mm => ?_)
  refine s1 (r_asb rfl) ?_
  refine wn ?_
  refine c_sreg rfl ?_
  refine s1 (r_mvi rfl) ?_
  refine so (o_c1 rfl (c_cIs r _) ?_)
  rintro _ w3 ⟨rfl, hc⟩
  have mm := mm.frame hc
  refine s1 (r_mvb rfl) ?_
  refine sT rfl rfl (fun h => r_mvi rfl) ?_
  refine sT rfl rfl (fun h => r_gt (sel_t h :) rfl) ?_
  refine s1 (r_and rfl rfl) ?_
  refine s1 (r_mvb rfl) ?_
  refine sT rfl rfl (fun h => r_mvi rfl) ?_
  refine sT rfl rfl (fun h => r_mvi rfl) ?_
  refine sT rfl rfl (fun h => r_ixa rfl (sel_t h :) (by simp at h; omega) (by simp at h; omega)) ?_
  refine sT rfl rfl (fun h => r_ld (sel_t h :) (mm.b 0 rfl) (by simp only [Nat.mul_one, Nat.zero_add]; exact nth_clk c _ (by simp at h; omega))) ?_
  refine sT rfl rfl (fun h => r_le (sel_t h :) (sel_t h :)) ?_
  refine s1 (r_and rfl rfl) ?_
  refine s1 (r_asb rfl) ?_
  refine wn ?_
  refine c_ret (ret1 rfl rfl ⟨rfl, mm.chg⟩)

theorem c_below (x y : Ev) (w : World) : Cl Try.prog 23 #[.agg (evC x).toArray, .agg (evC y).toArray] w (fun v w' => v = .bool (cHas y.c x.r x.n) ∧ Chg No w w') := by
  refine f_enter (args := [_, _]) Try.func23 rfl rfl ?_
  have mm := Mem.nil No w
  refine c_sreg rfl ?_
  refine so (o_bxa mm rfl fun b2 w2 mm => ?_)
  refine so (o_bxa mm rfl fun b3 w3 mm => ?_)
  refine s1 (r_asb rfl) ?_
  refine wn ?_
  refine c_sreg rfl ?_
  refine s1 (r_fa rfl) ?_
  refine s1 (r_lda rfl (mm.b 1 rfl) rfl) ?_
  refine s1 (r_fa rfl) ?_
  refine s1 (r_ld rfl (mm.b 0 rfl) rfl) ?_
  refine s1 (r_fa rfl) ?_
  refine s1 (r_ld rfl (mm.b 0 rfl) rfl) ?_
  refine so (o_c3 rfl rfl rfl (c_cHas y.c x.r x.n _) ?_)
  rintro _ w4 ⟨rfl, hc⟩
  have mm := mm.frame hc
  refine s1 (r_asb rfl) ?_
  refine wn ?_
  exact c_ret (ret1 rfl rfl ⟨rfl, mm.chg⟩)

theorem c_may (x : Ev) (w : World) : Cl Try.prog 22 #[.agg (evC x).toArray] w (fun v w' => v = .int .i64 (evMay x) ∧ Chg No w w') := by
  refine f_enter (args := [_]) Try.func22 rfl rfl ?_
  have mm := Mem.nil No w
  refine c_sreg rfl ?_
  refine so (o_bxa mm rfl fun b2 w2 mm => ?_)
  refine s1 (r_asi rfl) ?_
  refine wn ?_
  refine c_seq ?_
  refine c_sdraw mixed [(0, true), (1, true), (2, true), (3, true), (4, true), (5, true), (6, true), (7, true), (8, true), (9, true), (10, true), (11, true), (12, true), (13, true), (14, true), (15, true), (16, true), (17, true), (18, true), (19, true), (20, true), (21, true), (22, true), (23, true), (24, true), (25, true), (26, true), (27, true), (28, true), (29, true), (30, true), (31, true), (32, true), (33, true), (34, true), (35, true), (36, true), (37, true), (38, true)] [true, true, true, true, true, true, true, true, true, true, true, true, true, true, true, true, true, true, true, true, true, true, true, true, true, true, true, true, true, true, true, true, true, true, true, true, true, true, true] (Sof mm) (by kernel_rfl) rfl rfl (by kernel_rfl) (fun w3 hc => ?_)
  have mm := mm.frame hc
  refine p1 rfl (fun w m => r_fa rfl) mm ?_
  refine p1 rfl (fun w m => r_ld rfl (m.b 0 rfl) rfl) mm ?_
  refine p1 rfl (fun w m => r_lt rfl rfl) mm ?_
  refine p1 rfl (fun w m => r_mvb rfl) mm ?_
  refine pF rfl rfl rfl (fun h w m => r_fa rfl) mm ?_
  refine pF rfl rfl rfl (fun h w m => r_ld (sel_t h :) (m.b 0 rfl) rfl) mm ?_
  refine pF rfl rfl rfl (fun h w m => r_ge (sel_t h :) rfl) mm ?_
  refine p1 rfl (fun w m => r_or rfl rfl) mm ?_
  refine p1 rfl (fun w m => r_mvb rfl) mm ?_
  refine pF rfl rfl rfl (fun h w m => r_fa rfl) mm ?_
  refine pF rfl rfl rfl (fun h w m => r_ld (sel_t h :) (m.b 0 rfl) rfl) mm ?_
  refine pF rfl rfl rfl (fun h w m => r_lt (sel_t h :) rfl) mm ?_
  refine p1 rfl (fun w m => r_or rfl rfl) mm ?_
  refine p1 rfl (fun w m => r_mvb rfl) mm ?_
  refine pF rfl rfl rfl (fun h w m => r_fa rfl) mm ?_
  refine pF rfl rfl rfl (fun h w m => r_ld (sel_t h :) (m.b 0 rfl) rfl) mm ?_
  refine pF rfl rfl rfl (fun h w m => r_gt (sel_t h :) rfl) mm ?_
  refine p1 rfl (fun w m => r_or rfl rfl) mm ?_
  refine p1 rfl (fun w m => r_mvb rfl) mm ?_
  refine pF rfl rfl rfl (fun h w m => r_fa rfl) mm ?_
  refine pF rfl rfl rfl (fun h w m => r_ld (sel_t h :) (m.b 0 rfl) rfl) mm ?_
  refine pF rfl rfl rfl (fun h w m => r_fa rfl) mm ?_
  refine pF rfl rfl rfl (fun h w m => r_ixa (sel_t h :) (sel_t h :) (by simp at h; omega) (by simp at h; omega)) mm ?_
  refine pF rfl rfl rfl (fun h w m => r_ld (sel_t h :) (m.b 0 rfl) (by simp only [Nat.mul_one, Nat.zero_add]; exact nth_evc x _ (by simp at h; omega))) mm ?_
  refine pF rfl rfl rfl (fun h w m => r_fa rfl) mm ?_
  refine pF rfl rfl rfl (fun h w m => r_ld (sel_t h :) (m.b 0 rfl) rfl) mm ?_
  refine pF rfl rfl rfl (fun h w m => r_sub (sel_t h :) rfl (wi (by simp at h; omega) (by simp at h; omega))) mm ?_
  refine pF rfl rfl rfl (fun h w m => r_ne (sel_t h :) (sel_t h :)) mm ?_
  refine p1 rfl (fun w m => r_or rfl rfl) mm ?_
  refine p1 rfl (fun w m => r_mvb rfl) mm ?_
  refine pF rfl rfl rfl (fun h w m => r_fa rfl) mm ?_
  refine pF rfl rfl rfl (fun h w m => r_ld (sel_t h :) (m.b 0 rfl) rfl) mm ?_
  refine pF rfl rfl rfl (fun h w m => r_lt (sel_t h :) rfl) mm ?_
  refine p1 rfl (fun w m => r_or rfl rfl) mm ?_
  refine p1 rfl (fun w m => r_mvb rfl) mm ?_
  refine pF rfl rfl rfl (fun h w m => r_fa rfl) mm ?_
  refine pF rfl rfl rfl (fun h w m => r_ld (sel_t h :) (m.b 0 rfl) rfl) mm ?_
  refine pF rfl rfl rfl (fun h w m => r_gt (sel_t h :) rfl) mm ?_
  refine p1 rfl (fun w m => r_or rfl rfl) mm ?_
  refine pn ?_
  refine c_cond rfl (fun h => ?_) (fun h => (c_skip (t_n ?_)))
  · refine c_sreg rfl ?_
    refine s1 (r_asi rfl) ?_
    refine wn ?_
    refine c_ret (ret1 rfl rfl ⟨congrArg (Value.int .i64) ?_, mm.chg⟩)
    refine (if_neg ?_).symm
    intro hh
    simp only [evHead, Bool.and_eq_true, decide_eq_true_eq] at hh
    simp at h
    omega
  have hd : 0 ≤ x.r ∧ x.r < 5 ∧ 1 ≤ x.n ∧ x.n ≤ 1048576 ∧ x.c.get x.r.toNat = x.n - 1 ∧ 1 ≤ x.h ∧ x.h ≤ 16777216 := by simp at h; omega
  clear h
  refine c_seq ?_
  refine c_sreg rfl ?_
  refine s1 (r_fa rfl) ?_
  refine s1 (r_lda rfl (mm.b 0 rfl) rfl) ?_
  refine s1 (r_mvi rfl) ?_
  refine wn ?_
  refine c_block ?_
  refine c_loop (fun k e w' => ∃ i, k + i = 5 ∧ e 1 = .pointer (some ⟨b2, 0, none⟩) ∧ e 45 = .agg (clkC x.c).toArray ∧ e 46 = .int .i64 (i : Nat) ∧ Mem w No w' [bk b2 (evC x) 25] ∧ ∀ j, j < i → inEv (x.c.get j) = true) 5 ?_ ?_
  · exact ⟨0, rfl, rfl, rfl, rfl, mm, fun j hj => absurd hj (by omega)⟩
  rintro k e w9 ⟨i, hki, h1, h45, h46, mm, hall⟩
  refine c_sreg rfl ?_
  refine s1 (r_lt h46 rfl) ?_
  refine wn ?_
  refine c_seq ?_
  refine c_cond rfl (fun h => (c_skip (t_n ?_))) (fun h => (c_exit (t_x (t_x (b_x (t_n ?_))))))
  · have hi : i < 5 := by simp at h; omega
    clear h
    refine c_seq ?_
    refine c_block ?_
    refine c_sreg rfl ?_
    refine s1 (r_ixv h45 h46 (by omega) (by omega) (nth_clk x.c _ (by omega))) ?_
    refine s1 (r_asi rfl) ?_
    refine wn ?_
    refine c_sreg rfl ?_
    refine s1 (r_mvi rfl) ?_
    refine s1 (r_lt rfl rfl) ?_
    refine s1 (r_mvb rfl) ?_
    refine sF rfl rfl (fun h => r_mvi rfl) ?_
    refine sF rfl rfl (fun h => r_gt (sel_t h :) rfl) ?_
    refine s1 (r_or rfl rfl) ?_
    refine wn ?_
    refine c_cond rfl (fun h => ?_) (fun h => (c_skip (b_n (t_n ?_))))
    · refine c_sreg rfl ?_
      refine s1 (r_asi rfl) ?_
      refine wn ?_
      refine c_ret (ret1 rfl rfl ⟨congrArg (Value.int .i64) ?_, mm.chg⟩)
      refine (if_neg ?_).symm
      intro hh
      simp only [evHead, Bool.and_eq_true] at hh
      have := (Clk.all_iff _ _).1 hh.2 i hi
      simp [inEv] at this h
      omega
    refine c_region rfl ?_
    refine s1 (r_add h46 rfl (wi (by omega) (by omega))) ?_
    refine s1 (r_mvi rfl) ?_
    refine wn (t_n ?_)
    refine ⟨k - 1, by omega, i + 1, by omega, h1, h45, rfl, mm, ?_⟩
    intro j hj
    rcases Nat.lt_or_ge j i with hlt | hge
    · exact hall j hlt
    · obtain rfl : j = i := by omega
      simp [inEv] at h ⊢
      omega
  · have hi : i = 5 := by simp at h; omega
    subst hi
    have hh : evHead x = true := by
      simp only [evHead, Bool.and_eq_true, decide_eq_true_eq]
      exact ⟨⟨⟨⟨⟨⟨⟨hd.1, hd.2.1⟩, hd.2.2.1⟩, hd.2.2.2.1⟩, hd.2.2.2.2.1⟩, hd.2.2.2.2.2.1⟩, hd.2.2.2.2.2.2⟩, (Clk.all_iff _ _).2 hall⟩
    refine c_sreg rfl ?_
    refine s1 (r_fa h1) ?_
    refine s1 (r_ld rfl (mm.b 0 rfl) rfl) ?_
    refine s1 (r_fa h1) ?_
    refine s1 (r_ld rfl (mm.b 0 rfl) rfl) ?_
    refine s1 (r_fa h1) ?_
    refine s1 (r_ld rfl (mm.b 0 rfl) rfl) ?_
    refine s1 (r_fa h1) ?_
    refine s1 (r_ld rfl (mm.b 0 rfl) rfl) ?_
    refine s1 (r_bd (bi rfl (bt rfl (bi rfl (bt rfl bN)))) rfl) ?_
    refine so (o_c1 rfl (c_tEdit x.ed _) ?_)
    rintro _ w4 ⟨rfl, hc⟩
    have mm := mm.frame hc
    refine s1 (r_asi rfl) ?_
    refine wn ?_
    refine c_ret (ret1 rfl rfl ⟨congrArg (Value.int .i64) ?_, mm.chg⟩)
    exact (if_pos hh).symm
end Go.Proofs.Ytgdbbaggkoillaa
/- varint.Put, event.Put and its closures: walks. -/
namespace Go.Proofs.Ytgdbbaggkoillaa
open K
set_option maxRecDepth 100000

structure EvOk (x : Ev) : Prop where
  r0 : 0 ≤ x.r
  r5 : x.r < 5
  n1 : 1 ≤ x.n
  n2 : x.n ≤ 1048576
  own : x.c.get x.r.toNat = x.n - 1
  h1 : 1 ≤ x.h
  h2 : x.h ≤ 16777216
  c : ∀ i, i < 5 → 0 ≤ x.c.get i ∧ x.c.get i ≤ 1048576
  k1 : 1 ≤ x.kind
  k5 : x.kind ≤ 5
  key1 : 1 ≤ x.key.length
  key8 : x.key.length ≤ 8
  keya : x.key.all okByte = true
  l0 : 0 ≤ x.label
  l2 : x.label < 2
  v12 : x.val.length ≤ 12
  v1 : 2 < x.kind → 1 ≤ x.val.length
  bare : x.kind ≤ 2 → x.label = 0 ∧ x.val = []
theorem evMay_ok {x : Ev} (h : evMay x = 0) : EvOk x := by
  unfold evMay at h
  by_cases hh : evHead x = true
  · rw [if_pos hh] at h
    simp only [evHead, Bool.and_eq_true, decide_eq_true_eq] at hh
    obtain ⟨⟨⟨⟨⟨⟨⟨g1, g2⟩, g3⟩, g4⟩, g5⟩, g6⟩, g7⟩, g8⟩ := hh
    have g9 := (Clk.all_iff _ _).1 g8
    have gc : ∀ i, i < 5 → 0 ≤ x.c.get i ∧ x.c.get i ≤ 1048576 := fun i hi => by
      have := g9 i hi
      simpa [inEv] using this
    have h : (if x.kind < 1 ∨ 5 < x.kind then 1 else if tKey x.key ≠ 0 then tKey x.key else if x.kind ≤ 2 then tBare x.ed else if tLabel x.label ≠ 0 then tLabel x.label else tValue x.val) = (0 : Int) := h
    by_cases q1 : x.kind < 1 ∨ 5 < x.kind
    · rw [if_pos q1] at h; omega
    rw [if_neg q1] at h
    by_cases q2 : tKey x.key ≠ 0
    · rw [if_pos q2] at h; exact absurd h q2
    rw [if_neg q2] at h
    have q3 : keyOk x.key = true := by
      unfold tKey at q2
      by_cases q : keyOk x.key = true
      · exact q
      · rw [if_neg q] at q2; simp at q2
    simp only [keyOk, Bool.and_eq_true, decide_eq_true_eq] at q3
    obtain ⟨⟨q4, q5⟩, q6⟩ := q3
    by_cases q7 : x.kind ≤ 2
    · rw [if_pos q7] at h
      have h : (if x.label ≠ 0 then 11 else if x.val ≠ [] then 12 else 0) = (0 : Int) := h
      by_cases q8 : x.label ≠ 0
      · rw [if_pos q8] at h; omega
      rw [if_neg q8] at h
      by_cases q9 : x.val ≠ []
      · rw [if_pos q9] at h; omega
      have q8 : x.label = 0 := by omega
      have q9 : x.val = [] := Classical.byContradiction q9
      exact ⟨g1, g2, g3, g4, g5, g6, g7, gc, by omega, by omega, q4, q5, q6, by omega, by omega, by rw [q9]; decide, by omega, fun _ => ⟨q8, q9⟩⟩
    · rw [if_neg q7] at h
      by_cases q8 : tLabel x.label ≠ 0
      · rw [if_pos q8] at h; exact absurd h q8
      rw [if_neg q8] at h
      have q9 : 0 ≤ x.label ∧ x.label < 2 := by
        unfold tLabel at q8
        by_cases q : 0 ≤ x.label ∧ x.label < 2
        · exact q
        · rw [if_neg q] at q8; simp at q8
      have q10 : 1 ≤ x.val.length ∧ x.val.length ≤ 12 := by
        unfold tValue at h
        by_cases q : 1 ≤ x.val.length ∧ x.val.length ≤ 12
        · exact q
        · rw [if_neg q] at h; omega
      exact ⟨g1, g2, g3, g4, g5, g6, g7, gc, by omega, by omega, q4, q5, q6, q9.1, q9.2, q10.2, fun _ => q10.1, by omega⟩
  · rw [if_neg hh] at h; omega
def ctxB (x : Ev) (i : Nat) : List UInt8 := ((List.range i).filter (fun i : Nat => decide ((i : Int) ≠ x.r))).flatMap (fun i : Nat => vput (x.c.get i).toNat)
theorem ctxB_succ (x : Ev) (i : Nat) : ctxB x (i + 1) = ctxB x i ++ (if (i : Int) ≠ x.r then vput (x.c.get i).toNat else []) := by
  unfold ctxB
  rw [List.range_succ, List.filter_append, List.flatMap_append]
  by_cases h : (i : Int) = x.r <;> simp [h]

theorem K.Mem.cast1 {w0 w : World} {F0 : Nat → Prop} {T : TypeId} {sz n n' c : Nat} {a : Option Addr} {cs cs' : List Value} (h : Mem w0 F0 w [own T sz a n c cs]) (hn : n = n') (hc : cs = cs') : Mem w0 F0 w [own T sz a n' c cs'] := by subst hn; subst hc; exact h

theorem c_vput (m : Nat) (hm : m < 2 ^ 64) (w : World) : Cl Try.prog 46 #[.int .u64 m] w (fun v w' => ∃ a c, v = .slice a (vput m).length c ∧ Chg No w w' ∧ New w w' (own 5 1 a (vput m).length c (u8s (vput m)))) := by
  have hl := vput_len10 m hm
  refine f_enter (args := [_]) Try.func46 rfl rfl ?_
  refine c_sreg rfl ?_
  refine s1 (r_ass rfl) ?_
  refine wn ?_
  refine c_sreg rfl ?_
  refine s1 (r_ass rfl) ?_
  refine wn ?_
  have mm : Mem w No w [own 5 1 none 0 0 []] := (Mem.nil No w).nilrow
  refine c_seq ?_
  refine c_block ?_
  refine c_loop (fun k e w' => ∃ (x : Nat) (a : Option Addr) (c : Nat) (pre : List UInt8), k = x ∧ e 0 = .int .u64 x ∧ e 3 = .slice a pre.length c ∧ Mem w No w' [own 5 1 a pre.length c (u8s pre)] ∧ pre ++ vput x = vput m) m ?_ ?_
  · exact ⟨m, none, 0, [], rfl, rfl, rfl, mm, rfl⟩
  rintro k e w' ⟨x, a, c, pre, rfl, h0, h3, mm, hp⟩
  have hpl : pre.length + (vput k).length ≤ 10 := by rw [← hp, List.length_append] at hl; exact hl
  refine c_seq ?_
  refine c_sreg rfl ?_
  refine s1 (r_mvi h0) ?_
  refine s1 (r_ge rfl rfl) ?_
  refine wn ?_
  refine c_cond rfl (fun h => (c_skip (t_n ?_))) (fun h => (c_exit (t_x (t_x (b_x (t_n ?_))))))
  · have hk : 128 ≤ k := by simp at h; omega
    have hs : vput k = UInt8.ofNat (k % 128 + 128) :: vput (k / 128) := by rw [vput, if_neg (by omega)]
    refine c_seq ?_
    refine c_block ?_
    refine c_region rfl ?_
    refine s1 (r_mvs h3) ?_
    refine s1 (r_mvi h0) ?_
    refine s1 (r_cv rfl rfl) ?_
    refine s1 (r_bor rfl rfl rfl) ?_
    refine so (o_bi1 mm rfl fun a2 c2 w2 mm => ?_)
    refine so (o_ap mm 0 rfl rfl rfl (src_own mm 1 rfl rfl) (by omega) (by unfold maxLen; omega) fun a3 c3 w3 mm => ?_)
    refine s1 (r_ass rfl) ?_
    refine wn (b_n (t_n ?_))
    refine c_region rfl ?_
    refine s1 (r_mvi h0) ?_
    refine s1 (r_shr rfl rfl (by decide) rfl) ?_
    refine s1 (r_asi rfl) ?_
    refine wn (t_n ?_)
    have h2 := mm.pk [0] (by decide)
    have hl2 : (pre ++ [UInt8.ofNat (k % 128 + 128)]).length = pre.length + 1 := by simp
    rw [u8_more] at h2
    have h3 := h2.cast1 (n' := (pre ++ [UInt8.ofNat (k % 128 + 128)]).length) (cs' := u8s (pre ++ [UInt8.ofNat (k % 128 + 128)])) hl2.symm (u8s_append pre [UInt8.ofNat (k % 128 + 128)]).symm
    refine ⟨k / 128, by omega, k / 128, _, _, pre ++ [UInt8.ofNat (k % 128 + 128)], rfl, ?_, ?_, h3, ?_⟩
    · exact congrArg (Value.int .u64) (by simp [IntKind.bits]; first | exact (Int.natCast_ediv k 128) | exact ((Int.fdiv_eq_ediv_of_nonneg (k : Int) (b := 128) (by decide)).trans (Int.natCast_ediv k 128).symm).symm | exact (Int.fdiv_eq_ediv_of_nonneg (k : Int) (b := 128) (by decide)).trans (Int.natCast_ediv k 128).symm)
    · rw [hl2]; rfl
    · rw [List.append_assoc, ← hp, hs]; rfl
  · have hk : k < 128 := by simp at h; omega
    have hs : vput k = [UInt8.ofNat k] := by rw [vput, if_pos hk]
    rw [hs, List.length_singleton] at hpl
    refine c_sreg rfl ?_
    refine s1 (r_mvs h3) ?_
    refine s1 (r_mvi h0) ?_
    refine s1 (r_cv rfl rfl) ?_
    refine so (o_bi1 mm rfl fun a4 c4 w4 mm => ?_)
    refine so (o_ap mm 0 rfl rfl rfl (src_own mm 1 rfl rfl) (by omega) (by unfold maxLen; omega) fun a5 c5 w5 mm => ?_)
    refine s1 (r_ass rfl) ?_
    refine wn ?_
    have h2 := mm.pk [0] (by decide)
    rw [u8_low k hk] at h2
    have hz : vput m = pre ++ [UInt8.ofNat k] := by rw [← hp, hs]
    have hl2 : (pre ++ [UInt8.ofNat k]).length = pre.length + 1 := by simp
    have h3 := h2.cast1 (n' := (pre ++ [UInt8.ofNat k]).length) (cs' := u8s (pre ++ [UInt8.ofNat k])) hl2.symm (u8s_append pre [UInt8.ofNat k]).symm
    rw [hz]
    refine c_ret (ret1 rfl rfl ⟨_, _, ?_, mm.chg, h3.isNew 0 rfl⟩)
    rw [hl2]; rfl

theorem c_ePut1 {w0 w : World} {F0 : Nat → Prop} {L : List It} (mm0 : Mem w0 F0 w L) (k k' : Nat) (x : Int) (hx : 0 ≤ x) (hx' : x ≤ 9223372036854775807) {bo c : Nat} {a : Option Addr} {pre : List UInt8}
    (hk : nth L k = some (bk bo [.slice a pre.length c] 28)) (hk' : nth L k' = some (own 5 1 a pre.length c (u8s pre))) (hkk : k ≠ k') (hlen : pre.length ≤ 1000000) :
    Cl Try.prog 45 #[.int .i64 x, .pointer (some ⟨bo, 0, none⟩)] w (fun v w' => v = .tuple #[] ∧ ∃ a' c', Mem w0 F0 w' (setN (setN L k (bk bo [.slice a' (pre ++ vput x.toNat).length c'] 28)) k' (own 5 1 a' (pre ++ vput x.toNat).length c' (u8s (pre ++ vput x.toNat))))) := by
  have mm := mm0.pick2 k k' hk hk' hkk
  have hl := vput_len10 x.toNat (by omega)
  refine f_enter (args := [_, _]) Try.func45 rfl rfl ?_
  refine c_draw mixed [(0, true), (1, true), (2, true), (3, false), (4, false), (5, false)] [true, true, true, true, false, false] (Sof mm) (by kernel_rfl) rfl rfl (by kernel_rfl) (fun w2 hc => ?_)
  have mm := mm.frame hc
  refine p1 rfl (fun w m => r_ld rfl (m.b 0 rfl) rfl) mm ?_
  refine p1 rfl (fun w m => r_mvi rfl) mm ?_
  refine p1 rfl (fun w m => r_cv rfl (wu64n hx hx')) mm ?_
  refine po rfl (o_c1 rfl (c_vput x.toNat (by omega) _) ?_)
  rintro _ w3 ⟨a3, c3, rfl, hc, hn⟩
  have mm := mm.new hc hn
  refine ⟨fun _ => mm.sub [0, 1] _ (by decide) rfl, ?_⟩
  refine po rfl (o_ap mm 1 rfl rfl rfl (src_own mm 2 rfl (ones_u8s _)) (by omega) (by unfold maxLen; omega) fun a4 c4 w4 mm => ⟨fun h => absurd rfl h, ?_⟩)
  refine ps rfl (o_st mm 0 rfl rfl rfl rfl rfl fun w5 mm => ⟨fun h => absurd rfl h, ?_⟩)
  refine pn (body_n ?_)
  have h2 := mm0.lift2 k k' hk hk' hkk (mm.sub [0, 1] _ (by decide) rfl)
  exact ret0 rfl ⟨rfl, _, _, by rw [List.length_append, u8s_append]; exact h2⟩
theorem c_ePut2 {w0 w : World} {F0 : Nat → Prop} {L : List It} (mm0 : Mem w0 F0 w L) (k k' : Nat) (x : List UInt8) (hx : x.length ≤ 1000) {bo c : Nat} {a : Option Addr} {pre : List UInt8}
    (hk : nth L k = some (bk bo [.slice a pre.length c] 28)) (hk' : nth L k' = some (own 5 1 a pre.length c (u8s pre))) (hkk : k ≠ k') (hlen : pre.length ≤ 1000000) :
    Cl Try.prog 47 #[str x, .pointer (some ⟨bo, 0, none⟩)] w (fun v w' => v = .tuple #[] ∧ ∃ a' c', Mem w0 F0 w' (setN (setN L k (bk bo [.slice a' (pre ++ UInt8.ofNat x.length :: x).length c'] 28)) k' (own 5 1 a' (pre ++ UInt8.ofNat x.length :: x).length c' (u8s (pre ++ UInt8.ofNat x.length :: x))))) := by
  have mm := mm0.pick2 k k' hk hk' hkk
  refine f_enter (args := [_, _]) Try.func47 rfl rfl ?_
  refine c_region rfl ?_
  refine s1 (r_ld rfl (mm.b 0 rfl) rfl) ?_
  refine s1 (r_mvt rfl) ?_
  refine s1 (r_slen rfl) ?_
  refine s1 (r_cv rfl rfl) ?_
  refine so (o_bi1 mm rfl fun a2 c2 w2 mm => ?_)
  refine so (o_ap mm 1 rfl rfl rfl (src_own mm 2 rfl rfl) (by omega) (by unfold maxLen; omega) fun a3 c3 w3 mm => ?_)
  refine s1 (r_mvt rfl) ?_
  refine so (o_ap mm 1 rfl rfl rfl src_str (by omega) (by unfold maxLen; omega) fun a4 c4 w4 mm => ?_)
  refine ss (o_st mm 0 rfl rfl rfl rfl rfl fun w5 mm => ?_)
  refine wn (body_n ?_)
  have h2 := mm.pk [0, 1] (by decide)
  rw [u8_any] at h2
  have h3 := mm0.lift2 k k' hk hk' hkk h2
  have e1 : (pre ++ UInt8.ofNat x.length :: x).length = pre.length + 1 + x.length := by simp; omega
  have e2 : u8s (pre ++ UInt8.ofNat x.length :: x) = u8s pre ++ [u8 (UInt8.ofNat x.length)] ++ u8s x := by simp [u8s]
  exact ret0 rfl ⟨rfl, _, _, by rw [e1, e2]; exact h3⟩
theorem K.Mem.cast3 {w0 w : World} {F0 : Nat → Prop} {I : It} {T T' : TypeId} {sz n n' c b : Nat} {a : Option Addr} {cs cs' : List Value} (h : Mem w0 F0 w [I, own T sz a n c cs, bk b [.slice a n c] T']) (hn : n = n') (hc : cs = cs') : Mem w0 F0 w [I, own T sz a n' c cs', bk b [.slice a n' c] T'] := by subst hn; subst hc; exact h

theorem c_ePut (x : Ev) (w : World) : Cl Try.prog 20 #[.agg (evC x).toArray] w (fun v w' => ∃ a c, v = .tuple #[.slice a (if evMay x = 0 then putE x else []).length c, .int .i64 (evMay x)] ∧ Chg No w w' ∧ New w w' (own 5 1 a (if evMay x = 0 then putE x else []).length c (u8s (if evMay x = 0 then putE x else [])))) := by
  refine f_enter (args := [_]) Try.func20 rfl rfl ?_
  have mm := Mem.nil No w
  refine c_sreg rfl ?_
  refine so (o_bxa mm rfl fun b2 w2 mm => ?_)
  refine s1 (r_ass rfl) ?_
  refine s1 (r_asi rfl) ?_
  refine wn ?_
  refine c_seq ?_
  refine c_sreg rfl ?_
  refine s1 (r_lda rfl (mm.b 0 rfl) rfl) ?_
  refine so (o_c1 rfl (c_may x _) ?_)
  rintro _ w3 ⟨rfl, hc⟩
  have mm := mm.frame hc
  refine s1 (r_asi rfl) ?_
  refine wn ?_
  refine c_sreg rfl ?_
  refine s1 (r_mvi rfl) ?_
  refine s1 (r_ne rfl rfl) ?_
  refine wn ?_
  refine c_cond rfl (fun h => ?_) (fun h => (c_skip (t_n ?_)))
  · have hn : evMay x ≠ 0 := by simp at h; exact h
    refine c_sreg rfl ?_
    refine s1 (r_mvi rfl) ?_
    refine s1 (r_ass rfl) ?_
    refine s1 (r_asi rfl) ?_
    refine wn ?_
    rw [if_neg hn]
    have mm := mm.nilrow (T := 5) (sz := 1)
    exact c_ret (ret2 rfl rfl rfl ⟨none, 0, rfl, mm.chg, mm.isNew 1 rfl⟩)
  have hz : evMay x = 0 := by simp at h; exact h
  have hk := evMay_ok hz
  rw [if_pos hz, hz]
  refine c_sreg rfl ?_
  refine s1 (r_fa rfl) ?_
  refine s1 (r_ld rfl (mm.b 0 rfl) rfl) ?_
  refine s1 (r_cv rfl rfl) ?_
  refine s1 (r_fa rfl) ?_
  refine s1 (r_ld rfl (mm.b 0 rfl) rfl) ?_
  refine s1 (r_cv rfl rfl) ?_
  refine so (o_bi2 mm rfl rfl fun a4 c4 w4 mm => ?_)
  refine so (o_al mm fun b5 w5 mm => ?_)
  refine ss (o_st mm 2 rfl rfl rfl rfl rfl fun w6 mm => ?_)
  refine wn ?_
  refine c_sreg rfl ?_
  refine s1 (r_fn1 rfl) ?_
  refine s1 (r_asf rfl) ?_
  refine wn ?_
  refine c_sreg rfl ?_
  refine s1 (r_fn1 rfl) ?_
  refine s1 (r_asf rfl) ?_
  refine wn ?_
  have mm := mm.pk [0, 1, 2] (by decide)
  rw [u8_int _ (by have := hk.k1; omega), u8_int _ hk.r0] at mm
  have hl := vput_len10 x.n.toNat (by have := hk.n2; omega)
  refine c_sreg rfl ?_
  refine s1 (r_mvf rfl) ?_
  refine s1 (r_fa rfl) ?_
  refine s1 (r_ld rfl (mm.b 0 rfl) rfl) ?_
  refine so (o_f11 rfl rfl (c_ePut1 (pre := [UInt8.ofNat x.kind.toNat, UInt8.ofNat x.r.toNat]) mm 2 1 x.n (by have := hk.n1; omega) (by have := hk.n2; omega) rfl rfl (by decide) (by simp)) ?_)
  rintro _ w7 ⟨rfl, a7, c7, mm⟩
  refine wn ?_
  have mm := mm.pk [0, 1, 2] (by decide)
  have hp4 : ([UInt8.ofNat x.kind.toNat, UInt8.ofNat x.r.toNat] ++ vput x.n.toNat).length ≤ 12 := by simp; omega
  refine c_seq ?_
  refine c_sreg rfl ?_
  refine s1 (r_fa rfl) ?_
  refine s1 (r_lda rfl (mm.b 0 rfl) rfl) ?_
  refine s1 (r_mvi rfl) ?_
  refine wn ?_
  refine c_block ?_
  refine c_loop (fun k e w' => ∃ (i : Nat) (pre : List UInt8) (a : Option Addr) (c : Nat), k + i = 5 ∧ e 1 = .pointer (some ⟨b2, 0, none⟩) ∧ e 5 = .pointer (some ⟨b5, 0, none⟩) ∧ e 6 = .func (.func 45) #[] #[.pointer (some ⟨b5, 0, none⟩)] ∧ e 7 = .func (.func 47) #[] #[.pointer (some ⟨b5, 0, none⟩)] ∧ e 29 = .agg (clkC x.c).toArray ∧ e 30 = .int .i64 i ∧ Mem w No w' [bk b2 (evC x) 25, own 5 1 a pre.length c (u8s pre), bk b5 [.slice a pre.length c] 28] ∧ pre = [UInt8.ofNat x.kind.toNat, UInt8.ofNat x.r.toNat] ++ vput x.n.toNat ++ ctxB x i ∧ pre.length ≤ 12 + 10 * i) 5 ?_ ?_
  · exact ⟨0, _, _, _, rfl, rfl, rfl, rfl, rfl, rfl, rfl, mm, (List.append_nil _).symm, hp4⟩
  rintro k e w9 ⟨i, pre, a, c, hki, h1, h5, h6, h7, h29, h30, mm, hpre, hlen⟩
  refine c_sreg rfl ?_
  refine s1 (r_lt h30 rfl) ?_
  refine wn ?_
  refine c_seq ?_
  refine c_cond rfl (fun h => (c_skip (t_n ?_))) (fun h => (c_exit (t_x (t_x (b_x (t_n ?_))))))
  · have hi : i < 5 := by simp at h; omega
    clear h
    refine c_seq ?_
    refine c_block ?_
    refine c_sreg rfl ?_
    refine s1 (r_mvi h30) ?_
    refine s1 (r_ixv h29 h30 (by omega) (by omega) (nth_clk x.c _ (by omega))) ?_
    refine s1 (r_asi rfl) ?_
    refine s1 (r_asi rfl) ?_
    refine wn ?_
    refine c_sreg rfl ?_
    refine s1 (r_mvi rfl) ?_
    refine s1 (r_fa h1) ?_
    refine s1 (r_ld rfl (mm.b 0 rfl) rfl) ?_
    refine s1 (r_ne rfl rfl) ?_
    refine wn ?_
    refine c_cond rfl (fun h => ?_) (fun h => (c_skip (b_n (t_n ?_))))
    · have hne : (i : Int) ≠ x.r := by simpa using h
      have hci := hk.c i hi
      have hl2 := vput_len10 (x.c.get i).toNat (by omega)
      refine c_region rfl ?_
      refine s1 (r_mvf h6) ?_
      refine s1 (r_mvi rfl) ?_
      refine so (o_f11 rfl rfl (c_ePut1 mm 2 1 (x.c.get i) hci.1 (by omega) rfl rfl (by decide) (by omega)) ?_)
      rintro _ w8 ⟨rfl, a8, c8, mm⟩
      refine wn (b_n (t_n ?_))
      refine c_region rfl ?_
      refine s1 (r_add h30 rfl (wi (by omega) (by omega))) ?_
      refine s1 (r_mvi rfl) ?_
      refine wn (t_n ?_)
      refine ⟨k - 1, by omega, i + 1, _, _, _, by omega, h1, h5, h6, h7, h29, rfl, mm.pk [0, 1, 2] (by decide), ?_, ?_⟩
      · rw [ctxB_succ, if_pos hne, ← List.append_assoc, ← hpre]
      · rw [List.length_append]; omega
    · have hne : ¬ (i : Int) ≠ x.r := by simpa using h
      refine c_region rfl ?_
      refine s1 (r_add h30 rfl (wi (by omega) (by omega))) ?_
      refine s1 (r_mvi rfl) ?_
      refine wn (t_n ?_)
      refine ⟨k - 1, by omega, i + 1, _, _, _, by omega, h1, h5, h6, h7, h29, rfl, mm, ?_, by omega⟩
      rw [ctxB_succ, if_neg hne, List.append_nil]; exact hpre
  · have hi : i = 5 := by simp at h; omega
    subst hi
    clear h
    have hl3 := vput_len10 x.h.toNat (by have := hk.h2; omega)
    refine c_sreg rfl ?_
    refine s1 (r_mvf h6) ?_
    refine s1 (r_fa h1) ?_
    refine s1 (r_ld rfl (mm.b 0 rfl) rfl) ?_
    refine so (o_f11 rfl rfl (c_ePut1 mm 2 1 x.h (by have := hk.h1; omega) (by have := hk.h2; omega) rfl rfl (by decide) (by omega)) ?_)
    rintro _ w9 ⟨rfl, a9, c9, mm⟩
    refine wn ?_
    have hlen2 : (pre ++ vput x.h.toNat).length ≤ 100 := by rw [List.length_append]; omega
    refine c_sreg rfl ?_
    refine s1 (r_mvf h7) ?_
    refine s1 (r_fa h1) ?_
    refine s1 (r_ld rfl (mm.b 0 rfl) rfl) ?_
    refine so (o_f11 rfl rfl (c_ePut2 mm 2 1 x.key (by have := hk.key8; omega) rfl rfl (by decide) (by omega)) ?_)
    rintro _ w10 ⟨rfl, a10, c10, mm⟩
    refine wn ?_
    have hlen3 : (pre ++ vput x.h.toNat ++ UInt8.ofNat x.key.length :: x.key).length ≤ 120 := by rw [List.length_append, List.length_cons]; have := hk.key8; omega
    have mm := mm.pk [0, 1, 2] (by decide)
    have hput : putE x = pre ++ vput x.h.toNat ++ UInt8.ofNat x.key.length :: x.key ++ (if 2 < x.kind then UInt8.ofNat x.label.toNat :: UInt8.ofNat x.val.length :: x.val else []) := by rw [hpre]; rfl
    refine c_seq ?_
    refine c_sreg rfl ?_
    refine s1 (r_fa h1) ?_
    refine s1 (r_ld rfl (mm.b 0 rfl) rfl) ?_
    refine s1 (r_gt rfl rfl) ?_
    refine wn ?_
    refine c_cond rfl (fun h => ?_) (fun h => (c_skip (t_n ?_)))
    · have hk2 : 2 < x.kind := by simpa using h
      rw [if_pos hk2] at hput
      refine c_sreg rfl ?_
      refine s1 (r_ld h5 (mm.b 2 rfl) rfl) ?_
      refine s1 (r_fa h1) ?_
      refine s1 (r_ld rfl (mm.b 0 rfl) rfl) ?_
      refine s1 (r_cv rfl rfl) ?_
      refine so (o_bi1 mm rfl fun a11 c11 w11 mm => ?_)
      refine so (o_ap mm 1 rfl rfl rfl (src_own mm 3 rfl rfl) (by omega) (by unfold maxLen; omega) fun a12 c12 w12 mm => ?_)
      refine ss (o_st mm 2 rfl h5 rfl rfl rfl fun w13 mm => ?_)
      refine wn ?_
      have mm := mm.pk [0, 1, 2] (by decide)
      rw [u8_int _ hk.l0] at mm
      have q1 : (pre ++ vput x.h.toNat ++ UInt8.ofNat x.key.length :: x.key ++ [UInt8.ofNat x.label.toNat]).length = (pre ++ vput x.h.toNat ++ UInt8.ofNat x.key.length :: x.key).length + 1 := by rw [List.length_append, List.length_singleton]
      have q2 := u8s_append (pre ++ vput x.h.toNat ++ UInt8.ofNat x.key.length :: x.key) [UInt8.ofNat x.label.toNat]
      have mm := mm.cast3 q1.symm q2.symm
      refine c_region rfl ?_
      refine s1 (r_mvf h7) ?_
      refine s1 (r_fa h1) ?_
      refine s1 (r_ld rfl (mm.b 0 rfl) rfl) ?_
      refine so (o_f11 rfl rfl (c_ePut2 mm 2 1 x.val (by have := hk.v12; omega) rfl rfl (by decide) (by omega)) ?_)
      rintro _ w14 ⟨rfl, a14, c14, mm⟩
      refine wn (t_n ?_)
      have mm := mm.pk [0, 1, 2] (by decide)
      have hput : putE x = pre ++ vput x.h.toNat ++ UInt8.ofNat x.key.length :: x.key ++ [UInt8.ofNat x.label.toNat] ++ UInt8.ofNat x.val.length :: x.val := by rw [hput]; simp
      rw [hput]
      refine c_sreg rfl ?_
      refine s1 (r_ld h5 (mm.b 2 rfl) rfl) ?_
      refine s1 (r_ass rfl) ?_
      refine s1 (r_asi rfl) ?_
      refine wn ?_
      exact c_ret (ret2 rfl rfl rfl ⟨_, _, rfl, mm.chg, mm.isNew 1 rfl⟩)
    · have hk2 : ¬ 2 < x.kind := by simpa using h
      rw [if_neg hk2, List.append_nil] at hput
      rw [hput]
      refine c_sreg rfl ?_
      refine s1 (r_ld h5 (mm.b 2 rfl) rfl) ?_
      refine s1 (r_ass rfl) ?_
      refine s1 (r_asi rfl) ?_
      refine wn ?_
      exact c_ret (ret2 rfl rfl rfl ⟨_, _, rfl, mm.chg, mm.isNew 1 rfl⟩)
end Go.Proofs.Ytgdbbaggkoillaa
/- What was put is taken; what is taken was put; what is cut is too short: plain. -/
namespace Go.Proofs.Ytgdbbaggkoillaa
open K

/-! ### an error stays -/
theorem tOne_s {l h : Int} {s : List UInt8} {e : Int} (he : e ≠ 0) : (tOne l h s e).2.2 = e := by unfold tOne; rw [if_pos he]
theorem tNum_s {l h : Int} {s : List UInt8} {e : Int} (he : e ≠ 0) : (tNum l h s e).2.2 = e := by unfold tNum; rw [if_pos (.inl he), if_neg he]
theorem tWords_s {m : Int} {s : List UInt8} {e : Int} (he : e ≠ 0) : (tWords m s e).2.2 = e := by
  unfold tWords
  rw [tOne_s he, if_pos (.inl he), if_neg he]
theorem tCtx_s {r : Int} {s : List UInt8} {e : Int} (he : e ≠ 0) : ∀ i, (tCtx r s e i).2.2 = e
  | 0 => rfl
  | i + 1 => by
    have ih := tCtx_s (r := r) (s := s) he i
    show (tStep r i (tCtx r s e i)).2.2 = e
    unfold tStep
    split
    · show (tNum 0 1048576 (tCtx r s e i).2.1 (tCtx r s e i).2.2).2.2 = e
      rw [tNum_s (by rw [ih]; exact he), ih]
    · exact ih
theorem tKeyE_s {k : List UInt8} {e : Int} (he : e ≠ 0) : tKeyE k e = e := by
  unfold tKeyE
  split
  · rfl
  · first | rfl | rw [if_neg he]

def f6 (k r n : Int) (c : Clk) (h : Int) (y : List UInt8 × List UInt8 × Int) : Ev × List UInt8 × Int :=
  if 2 < k then
    (⟨r, n, c, h, k, y.1, (tOne 0 1 y.2.1 (tKeyE y.1 y.2.2)).1, (tWords 12 (tOne 0 1 y.2.1 (tKeyE y.1 y.2.2)).2.1 (tOne 0 1 y.2.1 (tKeyE y.1 y.2.2)).2.2).1⟩, (tWords 12 (tOne 0 1 y.2.1 (tKeyE y.1 y.2.2)).2.1 (tOne 0 1 y.2.1 (tKeyE y.1 y.2.2)).2.2).2.1, (tWords 12 (tOne 0 1 y.2.1 (tKeyE y.1 y.2.2)).2.1 (tOne 0 1 y.2.1 (tKeyE y.1 y.2.2)).2.2).2.2)
  else (⟨r, n, c, h, k, y.1, 0, []⟩, y.2.1, tKeyE y.1 y.2.2)
def f5 (k r n : Int) (c : Clk) (h : Int × List UInt8 × Int) := f6 k r n c h.1 (tWords 8 h.2.1 h.2.2)
def f4 (k r n : Int) (c : Clk × List UInt8 × Int) := f5 k r n c.1 (tNum 1 16777216 c.2.1 c.2.2)
def f3 (k r : Int) (n : Int × List UInt8 × Int) := f4 k r n.1 (tCtx r n.2.1 n.2.2 5)
def f2 (k : Int) (r : Int × List UInt8 × Int) := f3 k r.1 (tNum 1 1048576 r.2.1 r.2.2)
def f1 (k : Int × List UInt8 × Int) := f2 k.1 (tOne 0 4 k.2.1 k.2.2)
theorem takeS_f (b : List UInt8) : takeS b = f1 (tOne 1 5 b 0) := rfl
theorem f6_s {k r n : Int} {c : Clk} {h : Int} {y : List UInt8 × List UInt8 × Int} (he : y.2.2 ≠ 0) : (f6 k r n c h y).2.2 = y.2.2 := by
  unfold f6
  have h1 := tKeyE_s (k := y.1) he
  split
  · show (tWords 12 (tOne 0 1 y.2.1 (tKeyE y.1 y.2.2)).2.1 (tOne 0 1 y.2.1 (tKeyE y.1 y.2.2)).2.2).2.2 = y.2.2
    rw [h1]
    rw [tWords_s (by rw [tOne_s he]; exact he), tOne_s he]
  · exact h1
theorem f5_s {k r n : Int} {c : Clk} {h : Int × List UInt8 × Int} (he : h.2.2 ≠ 0) : (f5 k r n c h).2.2 = h.2.2 := by
  have h1 := tWords_s (m := 8) (s := h.2.1) he
  exact (f6_s (y := tWords 8 h.2.1 h.2.2) (by rw [h1]; exact he)).trans h1
theorem f4_s {k r n : Int} {c : Clk × List UInt8 × Int} (he : c.2.2 ≠ 0) : (f4 k r n c).2.2 = c.2.2 := by
  have h1 := tNum_s (l := 1) (h := 16777216) (s := c.2.1) he
  exact (f5_s (h := tNum 1 16777216 c.2.1 c.2.2) (by rw [h1]; exact he)).trans h1
theorem f3_s {k r : Int} {n : Int × List UInt8 × Int} (he : n.2.2 ≠ 0) : (f3 k r n).2.2 = n.2.2 := by
  have h1 := tCtx_s (r := r) (s := n.2.1) he 5
  exact (f4_s (c := tCtx r n.2.1 n.2.2 5) (by rw [h1]; exact he)).trans h1
theorem f2_s {k : Int} {r : Int × List UInt8 × Int} (he : r.2.2 ≠ 0) : (f2 k r).2.2 = r.2.2 := by
  have h1 := tNum_s (l := 1) (h := 1048576) (s := r.2.1) he
  exact (f3_s (n := tNum 1 1048576 r.2.1 r.2.2) (by rw [h1]; exact he)).trans h1
theorem f1_s {k : Int × List UInt8 × Int} (he : k.2.2 ≠ 0) : (f1 k).2.2 = k.2.2 := by
  have h1 := tOne_s (l := 0) (h := 4) (s := k.2.1) he
  exact (f2_s (r := tOne 0 4 k.2.1 k.2.2) (by rw [h1]; exact he)).trans h1

/-! ### what was put is taken -/
theorem tOne_put {l h : Int} {s : List UInt8} (n : Int) (h0 : 0 ≤ n) (h1 : n < 256) (hl : l ≤ n) (hh : n ≤ h) : tOne l h (UInt8.ofNat n.toNat :: s) 0 = (n, s, 0) := by
  have e : ((UInt8.ofNat n.toNat).toNat : Int) = n := by simp; omega
  unfold tOne
  rw [if_neg (by simp)]
  simp only [e]
  rw [if_neg (by omega)]
theorem vput_len9 (n : Nat) (h : n < 2 ^ 63) : (vput n).length ≤ 9 := vput_len 8 n (by omega)
theorem tNum_put {l h : Int} {s : List UInt8} (n : Int) (h0 : 0 ≤ n) (h1 : n ≤ 4611686018427387904) (hl : l ≤ n) (hh : n ≤ h) : tNum l h (vput n.toNat ++ s) 0 = (n, s, 0) := by
  have hv := vtake_put n.toNat (vput_len9 _ (by omega)) s
  unfold tNum
  rw [hv, if_neg (by simp)]
  simp only [List.drop_left]
  rw [if_neg (by omega), wi (by omega) (by omega), Int.toNat_of_nonneg h0]
theorem tWords_put {m : Int} {s : List UInt8} (w : List UInt8) (h1 : 1 ≤ w.length) (hm : (w.length : Int) ≤ m) (h2 : w.length < 256) : tWords m (UInt8.ofNat w.length :: w ++ s) 0 = (w, s, 0) := by
  have e : tOne 1 m (UInt8.ofNat w.length :: (w ++ s)) 0 = ((w.length : Int), w ++ s, 0) := by
    have := tOne_put (l := 1) (h := m) (s := w ++ s) (w.length : Int) (by omega) (by omega) (by omega) hm
    simpa using this
  unfold tWords
  rw [List.cons_append, e, if_neg (by simp; omega)]
  simp
theorem tCtx_put (x : Ev) (hk : EvOk x) : ∀ (i : Nat), i ≤ 5 → ∀ s : List UInt8, ∃ c, tCtx x.r (ctxB x i ++ s) 0 i = (c, s, 0) ∧ ∀ j, j < 5 → c.get j = if j < i ∧ (j : Int) ≠ x.r then x.c.get j else 0
  | 0, _, s => ⟨clk0, rfl, fun j hj => by
      rw [if_neg (by omega)]
      match j, hj with
      | 0, _ => rfl | 1, _ => rfl | 2, _ => rfl | 3, _ => rfl | 4, _ => rfl⟩
  | i + 1, hi, s => by
    have hci := hk.c i (by omega)
    rw [ctxB_succ, List.append_assoc]
    obtain ⟨c, h1, h2⟩ := tCtx_put x hk i (by omega) ((if (i : Int) ≠ x.r then vput (x.c.get i).toNat else []) ++ s)
    show ∃ c, tStep x.r i (tCtx x.r _ 0 i) = (c, s, 0) ∧ _
    rw [h1]
    unfold tStep
    by_cases hr : (i : Int) ≠ x.r
    · rw [if_pos hr, if_pos hr]
      simp only
      rw [tNum_put (x.c.get i) hci.1 (by omega) hci.1 hci.2]
      refine ⟨_, rfl, fun j hj => ?_⟩
      rw [Clk.get_set _ _ _ (by omega) hj]
      by_cases hij : i = j
      · subst hij
        rw [if_pos rfl, if_pos ⟨by omega, hr⟩]
      · rw [if_neg hij, h2 j hj]
        by_cases hj2 : j < i ∧ (j : Int) ≠ x.r
        · rw [if_pos hj2, if_pos ⟨by omega, hj2.2⟩]
        · rw [if_neg hj2, if_neg (by omega)]
    · rw [if_neg hr, if_neg hr]
      refine ⟨_, rfl, fun j hj => ?_⟩
      rw [h2 j hj]
      by_cases hj2 : j < i ∧ (j : Int) ≠ x.r
      · rw [if_pos hj2, if_pos ⟨by omega, hj2.2⟩]
      · rw [if_neg hj2, if_neg (by omega)]
theorem putE_eq (x : Ev) : putE x = UInt8.ofNat x.kind.toNat :: (UInt8.ofNat x.r.toNat :: (vput x.n.toNat ++ (ctxB x 5 ++ (vput x.h.toNat ++ (UInt8.ofNat x.key.length :: x.key ++
    (if 2 < x.kind then UInt8.ofNat x.label.toNat :: (UInt8.ofNat x.val.length :: x.val) else [])))))) := by
  unfold putE ctxB
  simp
theorem takeS_put (x : Ev) (hk : EvOk x) (s : List UInt8) : ∃ c, takeS (putE x ++ s) = ({ x with c := c }, s, 0) ∧ ∀ j, j < 5 → c.get j = if (j : Int) ≠ x.r then x.c.get j else 0 := by
  have h1 := hk.k1; have h2 := hk.k5; have h3 := hk.r0; have h4 := hk.r5; have h5 := hk.n1; have h6 := hk.n2; have h7 := hk.h1; have h8 := hk.h2
  have hkey1 := hk.key1; have hkey8 := hk.key8
  rw [takeS_f, putE_eq]
  simp only [List.cons_append, List.append_assoc]
  rw [tOne_put x.kind (by omega) (by omega) (by omega) (by omega)]
  unfold f1
  rw [tOne_put x.r (by omega) (by omega) (by omega) (by omega)]
  unfold f2
  simp only
  rw [tNum_put x.n (by omega) (by omega) (by omega) (by omega)]
  unfold f3
  simp only
  obtain ⟨c, hc1, hc2⟩ := tCtx_put x hk 5 (Nat.le_refl _) (vput x.h.toNat ++ (UInt8.ofNat x.key.length :: (x.key ++ ((if 2 < x.kind then UInt8.ofNat x.label.toNat :: (UInt8.ofNat x.val.length :: x.val) else []) ++ s))))
  rw [hc1]
  unfold f4
  simp only
  rw [tNum_put x.h (by omega) (by omega) (by omega) (by omega)]
  unfold f5
  simp only
  have hw := tWords_put (m := 8) (s := (if 2 < x.kind then UInt8.ofNat x.label.toNat :: (UInt8.ofNat x.val.length :: x.val) else []) ++ s) x.key hkey1 (by omega) (by omega)
  rw [List.cons_append] at hw
  rw [hw]
  have hko : keyOk x.key = true := by simp only [keyOk, Bool.and_eq_true, decide_eq_true_eq]; exact ⟨⟨hkey1, hkey8⟩, hk.keya⟩
  have hke : tKeyE x.key 0 = 0 := if_pos hko
  unfold f6
  simp only [hke]
  refine ⟨c, ?_, fun j hj => ?_⟩
  · by_cases hz : 2 < x.kind
    · rw [if_pos hz, if_pos hz]
      have hv1 := hk.v1 hz; have hv12 := hk.v12; have hl0 := hk.l0; have hl2 := hk.l2
      simp only [List.cons_append]
      rw [tOne_put x.label (by omega) (by omega) (by omega) (by omega)]
      simp only
      have hw2 := tWords_put (m := 12) (s := s) x.val hv1 (by omega) (by omega)
      rw [List.cons_append] at hw2
      rw [hw2]
    · rw [if_neg hz, if_neg hz]
      have hb := hk.bare (by omega)
      simp only [List.nil_append]
      obtain ⟨r, n, c', h, k, key, lb, vl⟩ := x
      simp only at hb
      obtain ⟨rfl, rfl⟩ := hb
      rfl
  · rw [hc2 j hj]
    by_cases hr : (j : Int) ≠ x.r
    · rw [if_pos ⟨hj, hr⟩, if_pos hr]
    · rw [if_neg (fun h => hr h.2), if_neg hr]
theorem takeE_put (x : Ev) (hk : EvOk x) (s : List UInt8) : takeE (putE x ++ s) = (x, ((putE x).length : Int), 0) := by
  obtain ⟨c, h1, h2⟩ := takeS_put x hk s
  unfold takeE takeFin
  rw [h1, if_neg (by simp)]
  have hr0 := hk.r0; have hr5 := hk.r5
  have hc : c.set x.r.toNat (x.n - 1) = x.c := Clk.ext' fun j hj => by
    rw [Clk.get_set _ _ _ (by omega) hj]
    split
    · rename_i hj; rw [← hk.own, hj]
    · rename_i hj; rw [h2 j (by assumption), if_pos (by omega)]
  simp only
  refine Prod.ext ?_ (Prod.ext ?_ rfl)
  · show ({ x with c := c.set x.r.toNat (x.n - 1) } : Ev) = x
    rw [hc]
  · show (((putE x ++ s).length - s.length : Nat) : Int) = ((putE x).length : Int)
    rw [List.length_append]; omega
end Go.Proofs.Ytgdbbaggkoillaa
