/- kithref05.Fit, kithref06.edit, kithref06.Fit, kithlaw06.long, kithlaw06.shown: walks. -/
import Derived.Test.YtgdbbaggkoillaaEx
import Derived.Test.YtgdbbaggkoillaaEf
namespace Go.Proofs.Ytgdbbaggkoillaa
open K
set_option maxRecDepth 100000

theorem c_long (n : Nat) (hn : n ≤ 9223372036854775807) (w : World) : Cl Try.prog 21 #[.int .i64 n] w (fun v w' => v = .int .i64 (vput n).length ∧ Chg No w w') := by
  have hl := vput_len10 n (by omega)
  refine f_enter (args := [_]) Try.func21 rfl rfl ?_
  have mm := Mem.nil No w
  refine c_sreg rfl ?_
  refine s1 (r_asi rfl) ?_
  refine wn ?_
  refine c_sreg rfl ?_
  refine s1 (r_asi rfl) ?_
  refine wn ?_
  refine c_seq ?_
  refine c_block ?_
  refine c_loop (fun k e w' => ∃ (x j : Nat), k = x ∧ e 0 = .int .i64 x ∧ e 3 = .int .i64 j ∧ Mem w No w' [] ∧ j + (vput x).length = (vput n).length + 1 ∧ x ≤ n ∧ 1 ≤ j) n ?_ ?_
  · exact ⟨n, 1, rfl, rfl, rfl, mm, by omega, Nat.le_refl _, Nat.le_refl _⟩
  rintro k e w' ⟨x, j, rfl, h0, h3, mm, hj, hx, hj1⟩
  have hp := vput_pos k
  refine c_seq ?_
  refine c_sreg rfl ?_
  refine s1 (r_mvi h0) ?_
  refine s1 (r_ge rfl rfl) ?_
  refine wn ?_
  refine c_cond rfl (fun h => (c_skip (t_n ?_))) (fun h => (c_exit (t_x (t_x (b_x (t_n ?_))))))
  · have hk : 128 ≤ k := by simp at h; omega
    have hs : vput k = UInt8.ofNat (k % 128 + 128) :: vput (k / 128) := by rw [vput, if_neg (by omega)]
    have hq : ((k : Int).tdiv 128) = ((k / 128 : Nat) : Int) := by rw [Int.tdiv_eq_ediv_of_nonneg (by omega)]; rfl
    refine c_block ?_
    refine c_sreg rfl ?_
    refine s1 (r_mvi h0) ?_
    refine s1 (r_quo rfl rfl (by decide) (show IntKind.i64.wrap ((k : Int).tdiv 128) = ((k / 128 : Nat) : Int) from by rw [hq]; exact wi (by omega) (by omega))) ?_
    refine s1 (r_asi rfl) ?_
    refine wn ?_
    refine c_region rfl ?_
    refine s1 (r_mvi h3) ?_
    refine s1 (r_add rfl rfl (wi (by omega) (by omega))) ?_
    refine s1 (r_asi rfl) ?_
    refine wn (b_n (t_n ?_))
    refine ⟨k / 128, by omega, k / 128, j + 1, rfl, rfl, rfl, mm, ?_, by omega, by omega⟩
    rw [hs, List.length_cons] at hj
    omega
  · have hk : k < 128 := by simp at h; omega
    have hs : vput k = [UInt8.ofNat k] := by rw [vput, if_pos hk]
    rw [hs, List.length_singleton] at hj
    refine c_sreg rfl ?_
    refine s1 (r_mvi h3) ?_
    refine s1 (r_asi rfl) ?_
    refine wn ?_
    refine c_ret (ret1 rfl rfl ⟨?_, mm.chg⟩)
    rw [show j = (vput n).length from by omega]; rfl

theorem c_ePut0 (x : Ev) (hx : evMay x = 0) (bs : List UInt8) (hb : putE x = bs) (w : World) : Cl Try.prog 20 #[.agg (evC x).toArray] w (fun v w' => ∃ a c, v = .tuple #[.slice a bs.length c, .int .i64 0] ∧ Chg No w w' ∧ New w w' (own 5 1 a bs.length c (u8s bs))) := by
  have h := c_ePut x w
  rw [if_pos hx, hx, hb] at h
  exact h
theorem putE_first : putE ⟨1, 1, clk0, 1, 1, [99, 121], 0, []⟩ = [1, 1, 1, 0, 0, 0, 0, 1, 2, 99, 121] := by
  have h0 : vput 0 = [0] := by rw [vput]; rfl
  have h1 : vput 1 = [1] := by rw [vput]; rfl
  simp [putE, List.range, List.range.loop, clk0, Clk.get, h0, h1]

theorem c_shown6 (w : World) : Cl Try.prog 18 #[] w (fun v w' => v = .bool true ∧ Chg No w w') := by
  refine f_enter (args := []) Try.func18 rfl rfl ?_
  have mm := Mem.nil No w
  refine c_sreg rfl ?_
  refine s1 (r_asb rfl) ?_
  refine wn ?_
  refine c_sreg rfl ?_
  refine s1 (r_bd (bi rfl (bi rfl (bi rfl (bi rfl (bt rfl bN))))) rfl) ?_
  refine so (o_c1 rfl (c_ePut0 ⟨1, 1, clk0, 1, 1, [99, 121], 0, []⟩ (by decide) _ putE_first _) ?_)
  rintro _ w2 ⟨a2, c2, rfl, hc, hn⟩
  have mm := mm.new hc hn
  refine s1 (r_mvu rfl) ?_
  refine s1 (r_exts rfl rfl) ?_
  refine s1 (r_exti rfl rfl) ?_
  refine s1 (r_ass rfl) ?_
  refine s1 (r_asi rfl) ?_
  refine wn ?_
  refine c_sreg rfl ?_
  refine s1 (r_mvs rfl) ?_
  refine s1 (r_b2s rfl (mm.c 0 rfl) rfl) ?_
  refine s1 (r_seq rfl rfl) ?_
  refine s1 (r_mvb rfl) ?_
  refine sT rfl rfl (fun h => r_mvi rfl) ?_
  refine sT rfl rfl (fun h => r_eq (sel_t h :) rfl) ?_
  refine s1 (r_and rfl rfl) ?_
  refine s1 (r_asb rfl) ?_
  refine wn ?_
  exact c_ret (ret1 rfl rfl ⟨rfl, mm.chg⟩)

theorem c_edit6 (x : Ev) (w : World) : Cl Try.prog 44 #[.agg (evC x).toArray] w (fun v w' => v = .agg (edC x.ed).toArray ∧ Chg No w w') := by
  refine f_enter (args := [_]) Try.func44 rfl rfl ?_
  have mm := Mem.nil No w
  refine c_sreg rfl ?_
  refine so (o_bxa mm rfl fun b2 w2 mm => ?_)
  refine so (o_al mm fun b3 w3 mm => ?_)
  refine wn ?_
  refine c_sreg rfl ?_
  refine s1 (r_fa rfl) ?_
  refine s1 (r_ld rfl (mm.b 0 rfl) rfl) ?_
  refine s1 (r_fa rfl) ?_
  refine s1 (r_ld rfl (mm.b 0 rfl) rfl) ?_
  refine s1 (r_fa rfl) ?_
  refine s1 (r_ld rfl (mm.b 0 rfl) rfl) ?_
  refine s1 (r_fa rfl) ?_
  refine s1 (r_ld rfl (mm.b 0 rfl) rfl) ?_
  refine s1 (r_bd (bi rfl (bt rfl (bi rfl (bt rfl bN)))) rfl) ?_
  refine ss (o_sta mm 1 rfl rfl rfl rfl rfl (Nat.le_of_ble_eq_true rfl) fun w4 mm => ?_)
  refine wn ?_
  exact c_ret (retc rfl rfl (mm.b 1 rfl) rfl ⟨rfl, mm.chg⟩)
theorem kv3 (n : Nat) (h : n < 3) : nth [str [97, 110, 110], str [98, 111, 98], str [99, 121]] (0 + (n : Int).toNat * 1) = some (str (keys3.getD n [])) := by
  match n, h with
  | 0, _ => rfl | 1, _ => rfl | 2, _ => rfl
theorem kv4 (n : Nat) (h : n < 4) : nth [str [49], str [116, 119, 111], str [0, 255], str [116, 119, 101, 108, 118, 101, 32, 98, 121, 116, 101, 115]] (0 + (n : Int).toNat * 1) = some (str (vals4.getD n [])) := by
  match n, h with
  | 0, _ => rfl | 1, _ => rfl | 2, _ => rfl | 3, _ => rfl

theorem c_fit5 (x : Ed) (hk : x.key.length < 2 ^ 47) (hv : x.val.length < 2 ^ 47) (w : World) : Cl Try.prog 43 #[.agg (edC x).toArray] w (fun v w' => v = .agg (edC (fitEd x)).toArray ∧ Chg No w w') := by
  have hs1 := bsum_le x.key
  have hs2 := bsum_le x.val
  refine f_enter (args := [_]) Try.func43 rfl rfl ?_
  have mm := Mem.nil No w
  refine c_sreg rfl ?_
  refine so (o_bxa mm rfl fun b2 w2 mm => ?_)
  refine so (o_al mm fun b3 w3 mm => ?_)
  refine wn ?_
  refine c_sreg rfl ?_
  refine s1 (r_bd (bt rfl (bt rfl (bt rfl bN))) rfl) ?_
  refine so (o_al mm fun b4 w4 mm => ?_)
  refine ss (o_sta mm 2 rfl rfl rfl rfl rfl (Nat.le_of_ble_eq_true rfl) fun w5 mm => ?_)
  refine wn ?_
  refine c_sreg rfl ?_
  refine s1 (r_bd (bt rfl (bt rfl (bt rfl (bt rfl bN)))) rfl) ?_
  refine so (o_al mm fun b6 w6 mm => ?_)
  refine ss (o_sta mm 3 rfl rfl rfl rfl rfl (Nat.le_of_ble_eq_true rfl) fun w7 mm => ?_)
  refine wn ?_
  refine c_sreg rfl ?_
  refine s1 (r_asi rfl) ?_
  refine wn ?_
  refine c_seq ?_
  refine c_sreg rfl ?_
  refine s1 (r_asi rfl) ?_
  refine wn ?_
  have mm : Mem w No w7 [bk b2 (edC x) 73, bk b3 (edC ⟨0, [], 0, []⟩) 73, bk b4 [str [97, 110, 110], str [98, 111, 98], str [99, 121]] 103, bk b6 [str [49], str [116, 119, 111], str [0, 255], str [116, 119, 101, 108, 118, 101, 32, 98, 121, 116, 101, 115]] 104] := mm
  refine c_block ?_
  refine c_loop (fun k e w' => ∃ (i : Nat), k + i = x.key.length ∧ e 1 = .pointer (some ⟨b2, 0, none⟩) ∧ e 2 = .pointer (some ⟨b3, 0, none⟩) ∧ e 3 = .pointer (some ⟨b4, 0, none⟩) ∧ e 4 = .pointer (some ⟨b6, 0, none⟩) ∧ e 5 = .int .i64 (bsum (x.key.take i)) ∧ e 6 = .int .i64 i ∧ Mem w No w' [bk b2 (edC x) 73, bk b3 (edC ⟨0, [], 0, []⟩) 73, bk b4 [str [97, 110, 110], str [98, 111, 98], str [99, 121]] 103, bk b6 [str [49], str [116, 119, 111], str [0, 255], str [116, 119, 101, 108, 118, 101, 32, 98, 121, 116, 101, 115]] 104]) x.key.length ?_ ?_
  · exact ⟨0, rfl, rfl, rfl, rfl, rfl, rfl, rfl, mm⟩
  rintro k e w' ⟨i, hki, h1, h2, h3, h4, h5, h6, mm⟩
  have hb := bsum_take_le x.key i
  refine c_seq ?_
  refine c_sreg rfl ?_
  refine s1 (r_mvi h6) ?_
  refine s1 (r_fa h1) ?_
  refine s1 (r_ld rfl (mm.b 0 rfl) rfl) ?_
  refine s1 (r_slen rfl) ?_
  refine s1 (r_lt rfl rfl) ?_
  refine wn ?_
  refine c_cond rfl (fun h => (c_skip (t_n ?_))) (fun h => (c_exit (t_x (t_x (b_x (t_n ?_))))))
  · have hi : i < x.key.length := by simp at h; omega
    have ht : bsum (x.key.take (i + 1)) = bsum (x.key.take i) + (x.key.getD (i : Int).toNat 0).toNat := bsum_take x.key i hi
    have hb2 := bsum_take_le x.key (i + 1)
    refine c_seq ?_
    refine c_block ?_
    refine c_region rfl ?_
    refine s1 (r_mvi h5) ?_
    refine s1 (r_fa h1) ?_
    refine s1 (r_ld rfl (mm.b 0 rfl) rfl) ?_
    refine s1 (r_mvi h6) ?_
    refine s1 (r_ixs rfl rfl (by omega) (by omega)) ?_
    refine s1 (r_cv rfl (wu8i _)) ?_
    refine s1 (r_add rfl rfl (show IntKind.i64.wrap _ = ((bsum (x.key.take (i + 1)) : Nat) : Int) from by rw [ht]; exact wi (by omega) (by omega))) ?_
    refine s1 (r_asi rfl) ?_
    refine wn (b_n (t_n ?_))
    refine c_region rfl ?_
    refine s1 (r_mvi h6) ?_
    refine s1 (r_add rfl rfl (wi (by omega) (by omega))) ?_
    refine s1 (r_asi rfl) ?_
    refine wn (t_n ?_)
    exact ⟨k - 1, by omega, i + 1, by omega, h1, h2, h3, h4, rfl, rfl, mm⟩
  have hi : i = x.key.length := by simp at h; omega
  rw [hi, List.take_length] at h5
  clear h6 h
  refine c_sreg rfl ?_
  refine s1 (r_asi rfl) ?_
  refine wn ?_
  refine c_seq ?_
  refine c_sreg rfl ?_
  refine s1 (r_asi rfl) ?_
  refine wn ?_
  refine c_block ?_
  refine c_loop (fun k e w' => ∃ (i : Nat), k + i = x.val.length ∧ e 1 = .pointer (some ⟨b2, 0, none⟩) ∧ e 2 = .pointer (some ⟨b3, 0, none⟩) ∧ e 3 = .pointer (some ⟨b4, 0, none⟩) ∧ e 4 = .pointer (some ⟨b6, 0, none⟩) ∧ e 5 = .int .i64 (bsum x.key) ∧ e 7 = .int .i64 (bsum (x.val.take i)) ∧ e 8 = .int .i64 i ∧ Mem w No w' [bk b2 (edC x) 73, bk b3 (edC ⟨0, [], 0, []⟩) 73, bk b4 [str [97, 110, 110], str [98, 111, 98], str [99, 121]] 103, bk b6 [str [49], str [116, 119, 111], str [0, 255], str [116, 119, 101, 108, 118, 101, 32, 98, 121, 116, 101, 115]] 104]) x.val.length ?_ ?_
  · exact ⟨0, rfl, h1, h2, h3, h4, h5, rfl, rfl, mm⟩
  clear h1 h2 h3 h4 h5 hb mm
  rintro k e w' ⟨i, hki, h1, h2, h3, h4, h5, h7, h8, mm⟩
  have hb := bsum_take_le x.val i
  refine c_seq ?_
  refine c_sreg rfl ?_
  refine s1 (r_mvi h8) ?_
  refine s1 (r_fa h1) ?_
  refine s1 (r_ld rfl (mm.b 0 rfl) rfl) ?_
  refine s1 (r_slen rfl) ?_
  refine s1 (r_lt rfl rfl) ?_
  refine wn ?_
  refine c_cond rfl (fun h => (c_skip (t_n ?_))) (fun h => (c_exit (t_x (t_x (b_x (t_n ?_))))))
  · have hi : i < x.val.length := by simp at h; omega
    have ht : bsum (x.val.take (i + 1)) = bsum (x.val.take i) + (x.val.getD (i : Int).toNat 0).toNat := bsum_take x.val i hi
    have hb2 := bsum_take_le x.val (i + 1)
    refine c_seq ?_
    refine c_block ?_
    refine c_region rfl ?_
    refine s1 (r_mvi h7) ?_
    refine s1 (r_fa h1) ?_
    refine s1 (r_ld rfl (mm.b 0 rfl) rfl) ?_
    refine s1 (r_mvi h8) ?_
    refine s1 (r_ixs rfl rfl (by omega) (by omega)) ?_
    refine s1 (r_cv rfl (wu8i _)) ?_
    refine s1 (r_add rfl rfl (show IntKind.i64.wrap _ = ((bsum (x.val.take (i + 1)) : Nat) : Int) from by rw [ht]; exact wi (by omega) (by omega))) ?_
    refine s1 (r_asi rfl) ?_
    refine wn (b_n (t_n ?_))
    refine c_region rfl ?_
    refine s1 (r_mvi h8) ?_
    refine s1 (r_add rfl rfl (wi (by omega) (by omega))) ?_
    refine s1 (r_asi rfl) ?_
    refine wn (t_n ?_)
    exact ⟨k - 1, by omega, i + 1, by omega, h1, h2, h3, h4, h5, rfl, rfl, mm⟩
  have hi : i = x.val.length := by simp at h; omega
  rw [hi, List.take_length] at h7
  clear h8 h
  have hq := tmod_in x.kind 5 (by decide)
  have hr := fitR_in x.kind
  unfold fitR at hr
  refine c_sdraw mixed [(0, true), (1, true), (2, true), (3, true), (4, true), (5, true), (6, true), (7, true), (8, true), (9, true), (10, true), (11, false), (12, false)] [true, true, true, true, true, true, true, true, true, true, true, true, false] (Sof mm) (by kernel_rfl) rfl rfl (by kernel_rfl) (fun w8 hc => ?_)
  have mm := mm.frame hc
  refine p1 rfl (fun w m => r_fa h1) mm ?_
  refine p1 rfl (fun w m => r_ld rfl (m.b 0 rfl) rfl) mm ?_
  refine p1 rfl (fun w m => r_rem rfl rfl (by decide) rfl) mm ?_
  refine p1 rfl (fun w m => r_add rfl rfl (wi (by omega) (by omega))) mm ?_
  refine p1 rfl (fun w m => r_rem rfl rfl (by decide) rfl) mm ?_
  refine p1 rfl (fun w m => r_add rfl rfl (wi (by omega) (by omega))) mm ?_
  refine p1 rfl (fun w m => r_mvi h5) mm ?_
  refine p1 rfl (fun w m => r_rem rfl rfl (by decide) (show (bsum x.key : Int).tmod 3 = ((bsum x.key % 3 : Nat) : Int) from rfl)) mm ?_
  refine p1 rfl (fun w m => r_ixa h3 rfl (by omega) (by omega)) mm ?_
  refine p1 rfl (fun w m => r_ld rfl (m.b 2 rfl) (kv3 _ (Nat.mod_lt _ (by decide)))) mm ?_
  refine p1 rfl (fun w m => r_bd (bi rfl (bt rfl bN)) rfl) mm ?_
  refine po rfl (o_al mm fun b9 w9 mm => ⟨fun _ => mm.sub [0, 1, 2, 3] _ (by decide) rfl, ?_⟩)
  refine ps rfl (o_sta mm 4 rfl rfl rfl rfl rfl (Nat.le_of_ble_eq_true rfl) fun w10 mm => ⟨fun h => absurd rfl h, ?_⟩)
  refine pn ?_
  have mm : Mem w No w10 [bk b2 (edC x) 73, bk b3 (edC ⟨0, [], 0, []⟩) 73, bk b4 [str [97, 110, 110], str [98, 111, 98], str [99, 121]] 103, bk b6 [str [49], str [116, 119, 111], str [0, 255], str [116, 119, 101, 108, 118, 101, 32, 98, 121, 116, 101, 115]] 104, bk b9 (edC ⟨fitK x.kind, keys3.getD (bsum x.key % 3) [], 0, []⟩) 73] := mm
  refine c_seq ?_
  refine c_sreg rfl ?_
  refine s1 (r_fa rfl) ?_
  refine s1 (r_ld rfl (mm.b 4 rfl) rfl) ?_
  refine s1 (r_gt rfl rfl) ?_
  refine wn ?_
  refine c_cond rfl (fun h => ?_) (fun h => (c_skip (t_n ?_)))
  · have hz : 2 < fitK x.kind := by simpa using h
    refine c_sreg rfl ?_
    refine s1 (r_fa h1) ?_
    refine s1 (r_ld rfl (mm.b 0 rfl) rfl) ?_
    refine s1 (r_band rfl rfl rfl) ?_
    refine s1 (r_fa rfl) ?_
    refine ss (o_st mm 4 rfl rfl rfl rfl rfl fun w11 mm => ?_)
    refine wn ?_
    refine c_region rfl ?_
    refine s1 (r_mvi h7) ?_
    refine s1 (r_rem rfl rfl (by decide) (show (bsum x.val : Int).tmod 4 = ((bsum x.val % 4 : Nat) : Int) from rfl)) ?_
    refine s1 (r_ixa h4 rfl (by omega) (by omega)) ?_
    refine s1 (r_ld rfl (mm.b 3 rfl) (kv4 _ (Nat.mod_lt _ (by decide)))) ?_
    refine s1 (r_fa rfl) ?_
    refine ss (o_st mm 4 rfl rfl rfl rfl rfl fun w12 mm => ?_)
    refine wn (t_n ?_)
    refine c_sreg rfl ?_
    refine s1 (r_lda rfl (mm.b 4 rfl) rfl) ?_
    refine ss (o_sta mm 1 rfl h2 rfl rfl rfl (Nat.le_of_ble_eq_true rfl) fun w13 mm => ?_)
    refine wn ?_
    refine c_ret (retc rfl h2 (mm.b 1 rfl) rfl ⟨?_, mm.chg⟩)
    unfold fitEd
    rw [if_pos hz, if_pos hz]
    rfl
  · have hz : ¬ 2 < fitK x.kind := by simpa using h
    refine c_sreg rfl ?_
    refine s1 (r_lda rfl (mm.b 4 rfl) rfl) ?_
    refine ss (o_sta mm 1 rfl h2 rfl rfl rfl (Nat.le_of_ble_eq_true rfl) fun w14 mm => ?_)
    refine wn ?_
    refine c_ret (retc rfl h2 (mm.b 1 rfl) rfl ⟨?_, mm.chg⟩)
    unfold fitEd
    rw [if_neg hz, if_neg hz]
    rfl
end Go.Proofs.Ytgdbbaggkoillaa

