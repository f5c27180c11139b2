/- What the functions of varint, clock, text, event come to: walks. -/
import Derived.Test.YtgdbbaggkoillaaKf
import Derived.Test.YtgdbbaggkoillaaKh
import Derived.Test.YtgdbbaggkoillaaEv
namespace Go.Proofs.Ytgdbbaggkoillaa
open K
set_option maxRecDepth 100000

theorem c_tLabel (n : Int) (w : World) : Cl Try.prog 76 #[.int .i64 n] w (fun v w' => v = .int .i64 (tLabel n) ∧ Chg No w w') := by
  refine f_enter (args := [_]) Try.func76 rfl rfl ?_
  refine c_sreg rfl ?_
  refine s1 (r_asi rfl) ?_
  refine wn ?_
  refine c_seq ?_
  refine c_sreg rfl ?_
  refine s1 (r_mvi rfl) ?_
  refine s1 (r_lt rfl rfl) ?_
  refine s1 (r_mvb rfl) ?_
  refine sF rfl rfl (fun h => r_mvi rfl) ?_
  refine sF rfl rfl (fun h => r_ge (sel_t h :) rfl) ?_
  refine s1 (r_or rfl rfl) ?_
  refine wn ?_
  refine c_cond rfl (fun h => ?_) (fun h => (c_skip (t_n ?_)))
  · refine c_sreg rfl ?_
    refine s1 (r_asi rfl) ?_
    refine wn ?_
    refine c_ret (ret1 rfl rfl ⟨congrArg (Value.int .i64) ?_, Chg.refl _ _⟩)
    simp at h
    exact (if_neg (by omega)).symm
  · refine c_sreg rfl ?_
    refine s1 (r_asi rfl) ?_
    refine wn ?_
    refine c_ret (ret1 rfl rfl ⟨congrArg (Value.int .i64) ?_, Chg.refl _ _⟩)
    simp at h
    exact (if_pos (by omega)).symm

theorem c_tValue (s : List UInt8) (w : World) : Cl Try.prog 77 #[str s] w (fun v w' => v = .int .i64 (tValue s) ∧ Chg No w w') := by
  refine f_enter (args := [_]) Try.func77 rfl rfl ?_
  refine c_sreg rfl ?_
  refine s1 (r_asi rfl) ?_
  refine wn ?_
  refine c_seq ?_
  refine c_sreg rfl ?_
  refine s1 (r_mvt rfl) ?_
  refine s1 (r_slen rfl) ?_
  refine s1 (r_lt rfl rfl) ?_
  refine s1 (r_mvb rfl) ?_
  refine sF rfl rfl (fun h => r_mvt rfl) ?_
  refine sF rfl rfl (fun h => r_slen (sel_t h :)) ?_
  refine sF rfl rfl (fun h => r_gt (sel_t h :) rfl) ?_
  refine s1 (r_or rfl rfl) ?_
  refine wn ?_
  refine c_cond rfl (fun h => ?_) (fun h => (c_skip (t_n ?_)))
  · refine c_sreg rfl ?_
    refine s1 (r_asi rfl) ?_
    refine wn ?_
    refine c_ret (ret1 rfl rfl ⟨congrArg (Value.int .i64) ?_, Chg.refl _ _⟩)
    simp at h
    exact (if_neg (by omega)).symm
  · refine c_sreg rfl ?_
    refine s1 (r_asi rfl) ?_
    refine wn ?_
    refine c_ret (ret1 rfl rfl ⟨congrArg (Value.int .i64) ?_, Chg.refl _ _⟩)
    simp at h
    exact (if_pos (by omega)).symm

theorem c_tBare (x : Ed) (w : World) : Cl Try.prog 75 #[.agg (edC x).toArray] w (fun v w' => v = .int .i64 (tBare x) ∧ Chg No w w') := by
  refine f_enter (args := [_]) Try.func75 rfl rfl ?_
  have mm := Mem.nil No w
  refine c_sreg rfl ?_
  refine so (o_bxa mm rfl fun b2 w2 mm => ?_)
  refine s1 (r_asi rfl) ?_
  refine wn ?_
  refine c_seq ?_
  refine c_block ?_
  refine c_sreg rfl ?_
  refine s1 (r_fa rfl) ?_
  refine s1 (r_ld rfl (mm.b 0 rfl) rfl) ?_
  refine s1 (r_ne rfl rfl) ?_
  refine s1 (r_asb rfl) ?_
  refine wn ?_
  refine c_cond rfl (fun h => ?_) (fun h => ?_)
  · refine c_sreg rfl ?_
    refine s1 (r_asi rfl) ?_
    refine wn ?_
    refine c_ret (ret1 rfl rfl ⟨congrArg (Value.int .i64) ?_, mm.chg⟩)
    simp at h
    exact (if_pos h).symm
  · refine c_sreg rfl ?_
    refine s1 (r_fa rfl) ?_
    refine s1 (r_ld rfl (mm.b 0 rfl) rfl) ?_
    refine s1 (r_sne rfl rfl) ?_
    refine s1 (r_asb rfl) ?_
    refine wn ?_
    refine c_cond rfl (fun h2 => ?_) (fun h2 => (c_skip (b_n (t_n ?_))))
    · refine c_sreg rfl ?_
      refine s1 (r_asi rfl) ?_
      refine wn ?_
      refine c_ret (ret1 rfl rfl ⟨congrArg (Value.int .i64) ?_, mm.chg⟩)
      simp at h h2
      exact ((if_neg (by omega)).trans (if_pos h2)).symm
    · refine c_sreg rfl ?_
      refine s1 (r_asi rfl) ?_
      refine wn ?_
      refine c_ret (ret1 rfl rfl ⟨congrArg (Value.int .i64) ?_, mm.chg⟩)
      simp at h h2
      exact ((if_neg (by omega)).trans (if_neg (by simp [h2]))).symm
theorem c_tKey (s : List UInt8) (w : World) : Cl Try.prog 54 #[str s] w (fun v w' => v = .int .i64 (tKey s) ∧ Chg No w w') := by
  refine f_enter (args := [_]) Try.func54 rfl rfl ?_
  have mm := Mem.nil No w
  refine c_sreg rfl ?_
  refine s1 (r_asi rfl) ?_
  refine wn ?_
  refine c_seq ?_
  refine c_sreg rfl ?_
  refine s1 (r_mvt rfl) ?_
  refine s1 (r_slen rfl) ?_
  refine s1 (r_lt rfl rfl) ?_
  refine s1 (r_mvb rfl) ?_
  refine sF rfl rfl (fun h => r_mvt rfl) ?_
  refine sF rfl rfl (fun h => r_slen (sel_t h :)) ?_
  refine sF rfl rfl (fun h => r_gt (sel_t h :) rfl) ?_
  refine s1 (r_or rfl rfl) ?_
  refine wn ?_
  refine c_cond rfl (fun h => ?_) (fun h => (c_skip (t_n ?_)))
  · refine c_sreg rfl ?_
    refine s1 (r_asi rfl) ?_
    refine wn ?_
    refine c_ret (ret1 rfl rfl ⟨congrArg (Value.int .i64) ?_, mm.chg⟩)
    simp at h
    exact (if_neg (by simp [keyOk]; omega)).symm
  have hl : 1 ≤ s.length ∧ s.length ≤ 8 := by simp at h; omega
  clear h
  refine c_seq ?_
  refine c_sreg rfl ?_
  refine s1 (r_mvt rfl) ?_
  refine so (o_rg mm rfl fun b2 w2 mm => ?_)
  refine wn ?_
  refine c_block ?_
  refine c_loop (fun k e w' => ∃ p, k + p = s.length ∧ e 14 = .pointer (some ⟨b2, 0, none⟩) ∧ Mem w No w' [si b2 ⟨s.toArray⟩ p] ∧ (s.take p).all okByte = true) s.length ?_ ?_
  · exact ⟨0, by omega, rfl, mm, rfl⟩
  rintro k e w3 ⟨p, hkp, h14, mm, hall⟩
  by_cases hp : p < s.length
  · have htk : s.take (p + 1) = s.take p ++ [s[p]] := by rw [List.take_succ_eq_append_getElem hp]
    refine c_sreg rfl ?_
    refine so (o_nx1 mm 0 rfl h14 hp fun w4 mm => ?_)
    refine s1 (r_extb rfl rfl) ?_
    refine wn ?_
    refine c_seq ?_
    refine c_cond rfl (fun _h => (c_skip (t_n ?_))) (fun _h => (c_exit (t_x (t_x (b_x (t_n ?_))))))
    rotate_left
    · cases _h
    refine c_block ?_
    refine c_sreg rfl ?_
    refine s1 (r_exti rfl rfl) ?_
    refine s1 (r_asi rfl) ?_
    refine wn ?_
    refine c_sreg rfl ?_
    refine s1 (r_mvi rfl) ?_
    refine s1 (r_lt rfl rfl) ?_
    refine s1 (r_mvb rfl) ?_
    refine sF rfl rfl (fun h => r_mvi rfl) ?_
    refine sF rfl rfl (fun h => r_gt (sel_t h :) rfl) ?_
    refine s1 (r_or rfl rfl) ?_
    refine wn ?_
    refine c_cond rfl (fun h => ?_) (fun h => (c_skip (b_n (t_n ?_))))
    · refine c_sreg rfl ?_
      refine s1 (r_asi rfl) ?_
      refine wn ?_
      refine c_ret (ret1 rfl rfl ⟨congrArg (Value.int .i64) ?_, mm.chg⟩)
      refine (if_neg ?_).symm
      intro hk
      simp only [keyOk, Bool.and_eq_true, List.all_eq_true] at hk
      have hb := hk.2 s[p] (List.getElem_mem hp)
      simp only [okByte, Bool.and_eq_true, decide_eq_true_eq] at hb
      rw [decode_low s p hp (by omega)] at h
      simp at h
      omega
    · refine ⟨k - (Utf8.decode ⟨s.toArray⟩ p).2, ?_, p + (Utf8.decode ⟨s.toArray⟩ p).2, ?_, h14, mm, ?_⟩
      all_goals
        have hb : s[p].toNat < 128 := by
          rcases Nat.lt_or_ge s[p].toNat 128 with hb | hb
          · exact hb
          · have := decode_hi s p hp hb
            simp at h
            omega
        rw [decode_low s p hp hb] at h ⊢
        simp at h
      · omega
      · simp only; omega
      · rw [htk, List.all_append, hall]
        simp only [List.all_cons, List.all_nil, okByte, Bool.true_and, Bool.and_true, Bool.and_eq_true, decide_eq_true_eq]
        omega
  · refine c_sreg rfl ?_
    refine so (o_nx0 mm 0 rfl h14 (by omega) ?_)
    refine s1 (r_extb rfl rfl) ?_
    refine wn ?_
    refine c_seq ?_
    refine c_cond rfl (fun _h => (c_skip (t_n ?_))) (fun _h => (c_exit (t_x (t_x (b_x (t_n ?_))))))
    · cases _h
    refine c_sreg rfl ?_
    refine s1 (r_asi rfl) ?_
    refine wn ?_
    refine c_ret (ret1 rfl rfl ⟨congrArg (Value.int .i64) ?_, mm.chg⟩)
    rw [List.take_of_length_le (by omega)] at hall
    exact (if_pos (by simp [keyOk, hl, hall])).symm

theorem c_tEdit (x : Ed) (w : World) : Cl Try.prog 48 #[.agg (edC x).toArray] w (fun v w' => v = .int .i64 (tEdit x) ∧ Chg No w w') := by
  refine f_enter (args := [_]) Try.func48 rfl rfl ?_
  have mm := Mem.nil No w
  refine c_sreg rfl ?_
  refine so (o_bxa mm rfl fun b2 w2 mm => ?_)
  refine s1 (r_asi rfl) ?_
  refine wn ?_
  refine c_seq ?_
  refine c_sreg rfl ?_
  refine s1 (r_fa rfl) ?_
  refine s1 (r_ld rfl (mm.b 0 rfl) rfl) ?_
  refine s1 (r_lt rfl rfl) ?_
  refine s1 (r_mvb rfl) ?_
  refine sF rfl rfl (fun h => r_fa rfl) ?_
  refine sF rfl rfl (fun h => r_ld (sel_t h :) (mm.b 0 rfl) rfl) ?_
  refine sF rfl rfl (fun h => r_gt (sel_t h :) rfl) ?_
  refine s1 (r_or rfl rfl) ?_
  refine wn ?_
  refine c_cond rfl (fun h => ?_) (fun h => (c_skip (t_n ?_)))
  · refine c_sreg rfl ?_
    refine s1 (r_asi rfl) ?_
    refine wn ?_
    refine c_ret (ret1 rfl rfl ⟨congrArg (Value.int .i64) ?_, mm.chg⟩)
    simp at h
    exact (if_pos h).symm
  have h1 : ¬ (x.kind < 1 ∨ 5 < x.kind) := by simp at h; omega
  clear h
  refine c_seq ?_
  refine c_sreg rfl ?_
  refine s1 (r_fa rfl) ?_
  refine s1 (r_ld rfl (mm.b 0 rfl) rfl) ?_
  refine so (o_c1 rfl (c_tKey x.key _) ?_)
  rintro _ w3 ⟨rfl, hc⟩
  have mm := mm.frame hc
  refine s1 (r_asi rfl) ?_
  refine wn ?_
  refine c_sreg rfl ?_
  refine s1 (r_mvi rfl) ?_
  refine s1 (r_ne rfl rfl) ?_
  refine wn ?_
  refine c_cond rfl (fun h => ?_) (fun h => (c_skip (t_n ?_)))
  · refine c_sreg rfl ?_
    refine s1 (r_mvi rfl) ?_
    refine s1 (r_asi rfl) ?_
    refine wn ?_
    refine c_ret (ret1 rfl rfl ⟨congrArg (Value.int .i64) ?_, mm.chg⟩)
    simp at h
    exact ((if_neg h1).trans (if_pos h)).symm
  have h2 : ¬ tKey x.key ≠ 0 := by simp at h; simp [h]
  clear h
  refine c_seq ?_
  refine c_sreg rfl ?_
  refine s1 (r_fa rfl) ?_
  refine s1 (r_ld rfl (mm.b 0 rfl) rfl) ?_
  refine s1 (r_le rfl rfl) ?_
  refine wn ?_
  refine c_cond rfl (fun h => ?_) (fun h => (c_skip (t_n ?_)))
  · refine c_sreg rfl ?_
    refine s1 (r_lda rfl (mm.b 0 rfl) rfl) ?_
    refine so (o_c1 rfl (c_tBare x _) ?_)
    rintro _ w4 ⟨rfl, hc⟩
    have mm := mm.frame hc
    refine s1 (r_asi rfl) ?_
    refine wn ?_
    refine c_ret (ret1 rfl rfl ⟨congrArg (Value.int .i64) ?_, mm.chg⟩)
    simp at h
    exact ((if_neg h1).trans ((if_neg h2).trans (if_pos h))).symm
  have h3 : ¬ x.kind ≤ 2 := by simp at h; omega
  clear h
  refine c_seq ?_
  refine c_sreg rfl ?_
  refine s1 (r_fa rfl) ?_
  refine s1 (r_ld rfl (mm.b 0 rfl) rfl) ?_
  refine so (o_c1 rfl (c_tLabel x.label _) ?_)
  rintro _ w5 ⟨rfl, hc⟩
  have mm := mm.frame hc
  refine s1 (r_asi rfl) ?_
  refine wn ?_
  refine c_sreg rfl ?_
  refine s1 (r_mvi rfl) ?_
  refine s1 (r_ne rfl rfl) ?_
  refine wn ?_
  refine c_cond rfl (fun h => ?_) (fun h => (c_skip (t_n ?_)))
  · refine c_sreg rfl ?_
    refine s1 (r_mvi rfl) ?_
    refine s1 (r_asi rfl) ?_
    refine wn ?_
    refine c_ret (ret1 rfl rfl ⟨congrArg (Value.int .i64) ?_, mm.chg⟩)
    simp at h
    exact ((if_neg h1).trans ((if_neg h2).trans ((if_neg h3).trans (if_pos h)))).symm
  have h4 : ¬ tLabel x.label ≠ 0 := by simp at h; simp [h]
  clear h
  refine c_sreg rfl ?_
  refine s1 (r_fa rfl) ?_
  refine s1 (r_ld rfl (mm.b 0 rfl) rfl) ?_
  refine so (o_c1 rfl (c_tValue x.val _) ?_)
  rintro _ w6 ⟨rfl, hc⟩
  have mm := mm.frame hc
  refine s1 (r_asi rfl) ?_
  refine wn ?_
  refine c_ret (ret1 rfl rfl ⟨congrArg (Value.int .i64) ?_, mm.chg⟩)
  exact ((if_neg h1).trans ((if_neg h2).trans ((if_neg h3).trans (if_neg h4)))).symm

theorem c_cIs (r : Int) (w : World) : Cl Try.prog 78 #[.int .i64 r] w (fun v w' => v = .bool (decide (0 ≤ r) && decide (r < 5)) ∧ Chg No w w') := by
  refine f_enter (args := [_]) Try.func78 rfl rfl ?_
  refine c_sreg rfl ?_
  refine s1 (r_asb rfl) ?_
  refine wn ?_
  refine c_sreg rfl ?_
  refine s1 (r_mvi rfl) ?_
  refine s1 (r_ge rfl rfl) ?_
  refine s1 (r_mvb rfl) ?_
  refine sT rfl rfl (fun h => r_mvi rfl) ?_
  refine sT rfl rfl (fun h => r_lt (sel_t h :) rfl) ?_
  refine s1 (r_and rfl rfl) ?_
  refine s1 (r_asb rfl) ?_
  refine wn ?_
  exact c_ret (ret1 rfl rfl ⟨rfl, Chg.refl _ _⟩)

theorem c_cHas (c : Clk) (r n : Int) (w : World) : Cl Try.prog 49 #[.agg (clkC c).toArray, .int .i64 r, .int .i64 n] w (fun v w' => v = .bool (cHas c r n) ∧ Chg No w w') := by
  refine f_enter (args := [_, _, _]) Try.func49 rfl rfl ?_
  have mm := Mem.nil No w
  refine c_sreg rfl ?_
  refine so (o_bxa mm rfl fun b2 w2 mm => ?_)
  refine s1 (r_asb rfl) ?_
  refine wn ?_
  refine c_sreg rfl ?_
  refine s1 (r_mvi rfl) ?_
  refine so (o_c1 rfl (c_cIs r _) ?_)
  rintro _ w3 ⟨rfl, hc⟩
  have mm := mm.frame hc
  refine s1 (r_mvb rfl) ?_
  refine sT rfl rfl (fun h => r_mvi rfl) ?_
  refine sT rfl rfl (fun h => r_gt (sel_t h :) rfl) ?_
  refine s1 (r_and rfl rfl) ?_
  refine s1 (r_mvb rfl) ?_
  refine sT rfl rfl (fun h => r_mvi rfl) ?_
  refine sT rfl rfl (fun h => r_mvi rfl) ?_
  refine sT rfl rfl (fun h => r_ixa rfl (sel_t h :) (by simp at h; omega) (by simp at h; omega)) ?_
  refine sT rfl rfl (fun h => r_ld (sel_t h :) (mm.b 0 rfl) (by simp only [Nat.mul_one, Nat.zero_add]; exact nth_clk c _ (by simp at h; omega))) ?_
  refine sT rfl rfl (fun h => r_le (sel_t h :) (sel_t h :)) ?_
  refine s1 (r_and rfl rfl) ?_
  refine s1 (r_asb rfl) ?_
  refine wn ?_
  refine c_ret (ret1 rfl rfl ⟨rfl, mm.chg⟩)

theorem c_below (x y : Ev) (w : World) : Cl Try.prog 23 #[.agg (evC x).toArray, .agg (evC y).toArray] w (fun v w' => v = .bool (cHas y.c x.r x.n) ∧ Chg No w w') := by
  refine f_enter (args := [_, _]) Try.func23 rfl rfl ?_
  have mm := Mem.nil No w
  refine c_sreg rfl ?_
  refine so (o_bxa mm rfl fun b2 w2 mm => ?_)
  refine so (o_bxa mm rfl fun b3 w3 mm => ?_)
  refine s1 (r_asb rfl) ?_
  refine wn ?_
  refine c_sreg rfl ?_
  refine s1 (r_fa rfl) ?_
  refine s1 (r_lda rfl (mm.b 1 rfl) rfl) ?_
  refine s1 (r_fa rfl) ?_
  refine s1 (r_ld rfl (mm.b 0 rfl) rfl) ?_
  refine s1 (r_fa rfl) ?_
  refine s1 (r_ld rfl (mm.b 0 rfl) rfl) ?_
  refine so (o_c3 rfl rfl rfl (c_cHas y.c x.r x.n _) ?_)
  rintro _ w4 ⟨rfl, hc⟩
  have mm := mm.frame hc
  refine s1 (r_asb rfl) ?_
  refine wn ?_
  exact c_ret (ret1 rfl rfl ⟨rfl, mm.chg⟩)

theorem c_may (x : Ev) (w : World) : Cl Try.prog 22 #[.agg (evC x).toArray] w (fun v w' => v = .int .i64 (evMay x) ∧ Chg No w w') := by
  refine f_enter (args := [_]) Try.func22 rfl rfl ?_
  have mm := Mem.nil No w
  refine c_sreg rfl ?_
  refine so (o_bxa mm rfl fun b2 w2 mm => ?_)
  refine s1 (r_asi rfl) ?_
  refine wn ?_
  refine c_seq ?_
  refine c_sdraw mixed [(0, true), (1, true), (2, true), (3, true), (4, true), (5, true), (6, true), (7, true), (8, true), (9, true), (10, true), (11, true), (12, true), (13, true), (14, true), (15, true), (16, true), (17, true), (18, true), (19, true), (20, true), (21, true), (22, true), (23, true), (24, true), (25, true), (26, true), (27, true), (28, true), (29, true), (30, true), (31, true), (32, true), (33, true), (34, true), (35, true), (36, true), (37, true), (38, true)] [true, true, true, true, true, true, true, true, true, true, true, true, true, true, true, true, true, true, true, true, true, true, true, true, true, true, true, true, true, true, true, true, true, true, true, true, true, true, true] (Sof mm) (by kernel_rfl) rfl rfl (by kernel_rfl) (fun w3 hc => ?_)
  have mm := mm.frame hc
  refine p1 rfl (fun w m => r_fa rfl) mm ?_
  refine p1 rfl (fun w m => r_ld rfl (m.b 0 rfl) rfl) mm ?_
  refine p1 rfl (fun w m => r_lt rfl rfl) mm ?_
  refine p1 rfl (fun w m => r_mvb rfl) mm ?_
  refine pF rfl rfl rfl (fun h w m => r_fa rfl) mm ?_
  refine pF rfl rfl rfl (fun h w m => r_ld (sel_t h :) (m.b 0 rfl) rfl) mm ?_
  refine pF rfl rfl rfl (fun h w m => r_ge (sel_t h :) rfl) mm ?_
  refine p1 rfl (fun w m => r_or rfl rfl) mm ?_
  refine p1 rfl (fun w m => r_mvb rfl) mm ?_
  refine pF rfl rfl rfl (fun h w m => r_fa rfl) mm ?_
  refine pF rfl rfl rfl (fun h w m => r_ld (sel_t h :) (m.b 0 rfl) rfl) mm ?_
  refine pF rfl rfl rfl (fun h w m => r_lt (sel_t h :) rfl) mm ?_
  refine p1 rfl (fun w m => r_or rfl rfl) mm ?_
  refine p1 rfl (fun w m => r_mvb rfl) mm ?_
  refine pF rfl rfl rfl (fun h w m => r_fa rfl) mm ?_
  refine pF rfl rfl rfl (fun h w m => r_ld (sel_t h :) (m.b 0 rfl) rfl) mm ?_
  refine pF rfl rfl rfl (fun h w m => r_gt (sel_t h :) rfl) mm ?_
  refine p1 rfl (fun w m => r_or rfl rfl) mm ?_
  refine p1 rfl (fun w m => r_mvb rfl) mm ?_
  refine pF rfl rfl rfl (fun h w m => r_fa rfl) mm ?_
  refine pF rfl rfl rfl (fun h w m => r_ld (sel_t h :) (m.b 0 rfl) rfl) mm ?_
  refine pF rfl rfl rfl (fun h w m => r_fa rfl) mm ?_
  refine pF rfl rfl rfl (fun h w m => r_ixa (sel_t h :) (sel_t h :) (by simp at h; omega) (by simp at h; omega)) mm ?_
  refine pF rfl rfl rfl (fun h w m => r_ld (sel_t h :) (m.b 0 rfl) (by simp only [Nat.mul_one, Nat.zero_add]; exact nth_evc x _ (by simp at h; omega))) mm ?_
  refine pF rfl rfl rfl (fun h w m => r_fa rfl) mm ?_
  refine pF rfl rfl rfl (fun h w m => r_ld (sel_t h :) (m.b 0 rfl) rfl) mm ?_
  refine pF rfl rfl rfl (fun h w m => r_sub (sel_t h :) rfl (wi (by simp at h; omega) (by simp at h; omega))) mm ?_
  refine pF rfl rfl rfl (fun h w m => r_ne (sel_t h :) (sel_t h :)) mm ?_
  refine p1 rfl (fun w m => r_or rfl rfl) mm ?_
  refine p1 rfl (fun w m => r_mvb rfl) mm ?_
  refine pF rfl rfl rfl (fun h w m => r_fa rfl) mm ?_
  refine pF rfl rfl rfl (fun h w m => r_ld (sel_t h :) (m.b 0 rfl) rfl) mm ?_
  refine pF rfl rfl rfl (fun h w m => r_lt (sel_t h :) rfl) mm ?_
  refine p1 rfl (fun w m => r_or rfl rfl) mm ?_
  refine p1 rfl (fun w m => r_mvb rfl) mm ?_
  refine pF rfl rfl rfl (fun h w m => r_fa rfl) mm ?_
  refine pF rfl rfl rfl (fun h w m => r_ld (sel_t h :) (m.b 0 rfl) rfl) mm ?_
  refine pF rfl rfl rfl (fun h w m => r_gt (sel_t h :) rfl) mm ?_
  refine p1 rfl (fun w m => r_or rfl rfl) mm ?_
  refine pn ?_
  refine c_cond rfl (fun h => ?_) (fun h => (c_skip (t_n ?_)))
  · refine c_sreg rfl ?_
    refine s1 (r_asi rfl) ?_
    refine wn ?_
    refine c_ret (ret1 rfl rfl ⟨congrArg (Value.int .i64) ?_, mm.chg⟩)
    refine (if_neg ?_).symm
    intro hh
    simp only [evHead, Bool.and_eq_true, decide_eq_true_eq] at hh
    simp at h
    omega
  have hd : 0 ≤ x.r ∧ x.r < 5 ∧ 1 ≤ x.n ∧ x.n ≤ 1048576 ∧ x.c.get x.r.toNat = x.n - 1 ∧ 1 ≤ x.h ∧ x.h ≤ 16777216 := by simp at h; omega
  clear h
  refine c_seq ?_
  refine c_sreg rfl ?_
  refine s1 (r_fa rfl) ?_
  refine s1 (r_lda rfl (mm.b 0 rfl) rfl) ?_
  refine s1 (r_mvi rfl) ?_
  refine wn ?_
  refine c_block ?_
  refine c_loop (fun k e w' => ∃ i, k + i = 5 ∧ e 1 = .pointer (some ⟨b2, 0, none⟩) ∧ e 45 = .agg (clkC x.c).toArray ∧ e 46 = .int .i64 (i : Nat) ∧ Mem w No w' [bk b2 (evC x) 25] ∧ ∀ j, j < i → inEv (x.c.get j) = true) 5 ?_ ?_
  · exact ⟨0, rfl, rfl, rfl, rfl, mm, fun j hj => absurd hj (by omega)⟩
  rintro k e w9 ⟨i, hki, h1, h45, h46, mm, hall⟩
  refine c_sreg rfl ?_
  refine s1 (r_lt h46 rfl) ?_
  refine wn ?_
  refine c_seq ?_
  refine c_cond rfl (fun h => (c_skip (t_n ?_))) (fun h => (c_exit (t_x (t_x (b_x (t_n ?_))))))
  · have hi : i < 5 := by simp at h; omega
    clear h
    refine c_seq ?_
    refine c_block ?_
    refine c_sreg rfl ?_
    refine s1 (r_ixv h45 h46 (by omega) (by omega) (nth_clk x.c _ (by omega))) ?_
    refine s1 (r_asi rfl) ?_
    refine wn ?_
    refine c_sreg rfl ?_
    refine s1 (r_mvi rfl) ?_
    refine s1 (r_lt rfl rfl) ?_
    refine s1 (r_mvb rfl) ?_
    refine sF rfl rfl (fun h => r_mvi rfl) ?_
    refine sF rfl rfl (fun h => r_gt (sel_t h :) rfl) ?_
    refine s1 (r_or rfl rfl) ?_
    refine wn ?_
    refine c_cond rfl (fun h => ?_) (fun h => (c_skip (b_n (t_n ?_))))
    · refine c_sreg rfl ?_
      refine s1 (r_asi rfl) ?_
      refine wn ?_
      refine c_ret (ret1 rfl rfl ⟨congrArg (Value.int .i64) ?_, mm.chg⟩)
      refine (if_neg ?_).symm
      intro hh
      simp only [evHead, Bool.and_eq_true] at hh
      have := (Clk.all_iff _ _).1 hh.2 i hi
      simp [inEv] at this h
      omega
    refine c_region rfl ?_
    refine s1 (r_add h46 rfl (wi (by omega) (by omega))) ?_
    refine s1 (r_mvi rfl) ?_
    refine wn (t_n ?_)
    refine ⟨k - 1, by omega, i + 1, by omega, h1, h45, rfl, mm, ?_⟩
    intro j hj
    rcases Nat.lt_or_ge j i with hlt | hge
    · exact hall j hlt
    · obtain rfl : j = i := by omega
      simp [inEv] at h ⊢
      omega
  · have hi : i = 5 := by simp at h; omega
    subst hi
    have hh : evHead x = true := by
      simp only [evHead, Bool.and_eq_true, decide_eq_true_eq]
      exact ⟨⟨⟨⟨⟨⟨⟨hd.1, hd.2.1⟩, hd.2.2.1⟩, hd.2.2.2.1⟩, hd.2.2.2.2.1⟩, hd.2.2.2.2.2.1⟩, hd.2.2.2.2.2.2⟩, (Clk.all_iff _ _).2 hall⟩
    refine c_sreg rfl ?_
    refine s1 (r_fa h1) ?_
    refine s1 (r_ld rfl (mm.b 0 rfl) rfl) ?_
    refine s1 (r_fa h1) ?_
    refine s1 (r_ld rfl (mm.b 0 rfl) rfl) ?_
    refine s1 (r_fa h1) ?_
    refine s1 (r_ld rfl (mm.b 0 rfl) rfl) ?_
    refine s1 (r_fa h1) ?_
    refine s1 (r_ld rfl (mm.b 0 rfl) rfl) ?_
    refine s1 (r_bd (bi rfl (bt rfl (bi rfl (bt rfl bN)))) rfl) ?_
    refine so (o_c1 rfl (c_tEdit x.ed _) ?_)
    rintro _ w4 ⟨rfl, hc⟩
    have mm := mm.frame hc
    refine s1 (r_asi rfl) ?_
    refine wn ?_
    refine c_ret (ret1 rfl rfl ⟨congrArg (Value.int .i64) ?_, mm.chg⟩)
    exact (if_pos hh).symm
end Go.Proofs.Ytgdbbaggkoillaa

