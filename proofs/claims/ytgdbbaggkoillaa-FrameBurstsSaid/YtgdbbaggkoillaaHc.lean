/- kithlaw07.FrameBursts: the walk. -/
import Derived.Test.YtgdbbaggkoillaaHa
import Derived.Test.YtgdbbaggkoillaaHb
import Derived.Test.YtgdbbaggkoillaaCs
import Derived.Test.YtgdbbaggkoillaaKq
namespace Go.Proofs.Ytgdbbaggkoillaa
open K
set_option maxRecDepth 100000
set_option maxHeartbeats 4000000

theorem bx8j (x : UInt8) (r : Nat) (h : r < 8) : bitv .xor .u8 ((x.toNat : Nat) : Int) ((2 ^ r : Nat) : Int) = (((x ^^^ UInt8.ofNat (2 ^ r)).toNat : Nat) : Int) := by
  have h1 := bx8 x r h
  unfold u8 at h1
  injection h1
theorem setN_u8 (s : List UInt8) (j : Nat) (x : UInt8) : setN (u8s s) j (u8 x) = u8s (s.set j x) := by
  rw [setN_eq]
  unfold u8s
  rw [← List.map_set]
theorem tdivN (a b : Nat) : ((a : Nat) : Int).tdiv ((b : Nat) : Int) = ((a / b : Nat) : Int) := Int.ofNat_tdiv a b
theorem tmodN (a b : Nat) : ((a : Nat) : Int).tmod ((b : Nat) : Int) = ((a % b : Nat) : Int) := Int.ofNat_tmod a b
theorem K.Mem.castg {w0 w : World} {F0 : Nat → Prop} {I0 I1 I2 : It} {T : TypeId} {sz n n' c : Nat} {a : Option Addr} {cs cs' : List Value} (h : Mem w0 F0 w [I0, I1, I2, own T sz a n c cs]) (hn : n = n') (hc : cs = cs') : Mem w0 F0 w [I0, I1, I2, own T sz a n' c cs'] := by subst hn; subst hc; exact h
theorem c_FrameBursts (x0 : Rec) (a : Option Addr) (cap : Nat) (hin : RecIn x0) (pl : Int) (hpl : i64 pl) (mask : Nat) (hmask : mask ≤ 4294967295) (w : World) (H : Cells w a (evsC x0.es)) : Cl Try.prog 11 #[.agg (recV x0 a cap).toArray, .int .i64 pl, .int .u32 (mask : Nat)] w (fun v w' => v = .bool true ∧ Chg No w w') := by
  unfold i64 at hpl
  refine f_enter (args := [_, _, _]) Try.func11 rfl rfl ?_
  have mm := Mem.nil No w
  have ok := frFit_ok x0
  have hmf := frMay_of ok
  have hpe : frPut (frFit x0) = putF (frFit x0) := by unfold frPut; rw [hmf]; rfl
  refine c_sreg rfl ?_
  refine so (o_bxa mm rfl fun b2 w2 mm => ?_)
  refine s1 (r_asb rfl) ?_
  refine wn ?_
  refine c_sreg rfl ?_
  refine so (o_c0 (c_shown07 _) ?_)
  rintro _ w3 ⟨rfl, hc⟩
  have mm := mm.frame hc
  refine s1 (r_asb rfl) ?_
  refine wn ?_
  refine c_sreg rfl ?_
  refine s1 (r_lda rfl (mm.b 0 rfl) rfl) ?_
  refine so (o_c1 rfl (c_fit07 x0 _ (mm.ro H) hin) ?_)
  rintro _ w4 ⟨a4, c4, rfl, hc, hn⟩
  have mm := mm.new hc hn
  refine so (o_c1 rfl (c_fPut (frFit x0) _ (mm.c 1 rfl) (clk_okF ok.c)) ?_)
  rintro _ w5 ⟨a5, c5, rfl, hc, hn⟩
  have mm := mm.new hc hn
  refine s1 (r_mvu rfl) ?_
  refine s1 (r_exts rfl rfl) ?_
  refine s1 (r_exti rfl rfl) ?_
  refine s1 (r_ass rfl) ?_
  refine s1 (r_asi rfl) ?_
  refine wn ?_
  rw [hpe, hmf] at *
  have hpp := putF_pos (frFit x0)
  have hput : putF (frFit x0) = sealL (vput (bodyF (frFit x0)).length ++ bodyF (frFit x0)) := rfl
  have hlen := putF_len ok
  have htake := takeF_put (frMay_of ok)
  have hne := putF_ne (frFit x0)
  have hW : RecW (frFit x0) := frW_of ok
  generalize hB : vput (bodyF (frFit x0)).length ++ bodyF (frFit x0) = B at *
  generalize frFit x0 = x at *
  generalize hS : putF x = S at *
  have mm : Mem w No _ [bk b2 (recV x0 a cap) 47, own 25 12 a4 x.es.length c4 (evsC x.es), own 5 1 a5 S.length c5 (u8s S)] := mm
  refine c_seq ?_
  refine c_sreg rfl ?_
  refine s1 (r_mvb rfl) ?_
  refine s1 (r_not rfl) ?_
  refine s1 (r_mvb rfl) ?_
  refine sF rfl rfl (fun h => r_mvi rfl) ?_
  refine sF rfl rfl (fun h => r_ne (sel_t h :) rfl) ?_
  refine s1 (r_or rfl rfl) ?_
  refine s1 (r_mvb rfl) ?_
  refine sF rfl rfl (fun h => r_mvs rfl) ?_
  refine sF rfl rfl (fun h => r_len (sel_t h :)) ?_
  refine sF rfl rfl (fun h => r_eq (sel_t h :) rfl) ?_
  refine s1 (r_or rfl rfl) ?_
  refine wn ?_
  refine c_cond rfl (fun h => ?_) (fun h => (c_skip (t_n ?_)))
  · exfalso
    simp [hne] at h
  clear h
  have e36 : IntKind.i64.wrap (8 * ((S.length : Nat) : Int)) = ((8 * S.length : Nat) : Int) := by rw [wi (by omega) (by omega)]; omega
  refine c_sreg rfl ?_
  refine s1 (r_mvs rfl) ?_
  refine s1 (r_len rfl) ?_
  refine s1 (r_mul rfl rfl e36) ?_
  refine s1 (r_asi rfl) ?_
  refine wn ?_
  generalize hM : 8 * S.length = M at *
  have h1 := Int.tmod_lt_of_pos pl (show (0 : Int) < ((M : Nat) : Int) by omega)
  have h2 := Int.lt_tmod_of_pos pl (show (0 : Int) < ((M : Nat) : Int) by omega)
  have e41 : IntKind.i64.wrap (pl.tmod ((M : Nat) : Int) + ((M : Nat) : Int)) = pl.tmod ((M : Nat) : Int) + ((M : Nat) : Int) := wi (by omega) (by omega)
  obtain ⟨u, hu⟩ := Int.eq_ofNat_of_zero_le (show 0 ≤ pl.tmod ((M : Nat) : Int) + ((M : Nat) : Int) by omega)
  obtain ⟨bit, hbit⟩ : ∃ z, z = u % M := ⟨_, rfl⟩
  have hbl : bit < M := by rw [hbit]; exact Nat.mod_lt _ (by omega)
  have e43 : (pl.tmod ((M : Nat) : Int) + ((M : Nat) : Int)).tmod ((M : Nat) : Int) = ((bit : Nat) : Int) := by rw [hu, hbit]; exact tmodN u M
  refine c_sreg rfl ?_
  refine s1 (r_mvi rfl) ?_
  refine s1 (r_mvi rfl) ?_
  refine s1 (r_rem rfl rfl (by omega) rfl) ?_
  refine s1 (r_mvi rfl) ?_
  refine s1 (r_add rfl rfl e41) ?_
  refine s1 (r_mvi rfl) ?_
  refine s1 (r_rem rfl rfl (by omega) e43) ?_
  refine s1 (r_asi rfl) ?_
  refine wn ?_
  refine c_sreg rfl ?_
  refine so (o_bs0 mm fun a6 c6 w6 mm => ?_)
  refine s1 (r_mvs rfl) ?_
  refine so (o_ap mm 3 rfl rfl rfl (src_own mm 2 rfl (ones_u8s _)) (by omega) (by unfold maxLen; omega) fun a7 c7 w7 mm => ?_)
  refine s1 (r_ass rfl) ?_
  refine wn ?_
  have mm : Mem w No _ [bk b2 (recV x0 a cap) 47, own 25 12 a4 x.es.length c4 (evsC x.es), own 5 1 a5 S.length c5 (u8s S), own 5 1 a7 S.length c7 (u8s S)] := mm.castg (Nat.zero_add _) rfl
  refine c_seq ?_
  refine c_sreg rfl ?_
  refine s1 (r_asi rfl) ?_
  refine wn ?_
  refine c_block ?_
  refine c_loop (fun kk e w' => ∃ (i : Nat) (s : List UInt8), kk + i = 32 ∧ e 2 = .int .u32 (mask : Nat) ∧ e 7 = .bool true ∧ e 8 = .slice a5 S.length c5 ∧ e 10 = .int .i64 (M : Nat) ∧ e 11 = .int .i64 (bit : Nat) ∧ e 12 = .slice a7 S.length c7 ∧ e 13 = .int .i64 (i : Nat) ∧ Mem w No w' [bk b2 (recV x0 a cap) 47, own 25 12 a4 x.es.length c4 (evsC x.es), own 5 1 a5 S.length c5 (u8s S), own 5 1 a7 S.length c7 (u8s s)] ∧ Turned S mask bit i s ∧ bit + i ≤ M) 32 ?_ ?_
  · exact ⟨0, S, rfl, rfl, rfl, rfl, rfl, rfl, by show Value.slice _ (0 + S.length) _ = _; rw [Nat.zero_add], rfl, mm, turned0 S mask bit, by omega⟩
  clear mm
  rintro kk e w9 ⟨i, s, hki, h2, h7, h8, h10, h11, h12, h13, mm, htu, hle⟩
  refine c_seq ?_
  refine c_sreg rfl ?_
  refine s1 (r_mvi h13) ?_
  refine s1 (r_lt rfl rfl) ?_
  refine s1 (r_mvb rfl) ?_
  refine sT rfl rfl (fun h => r_mvi h11) ?_
  refine sT rfl rfl (fun h => r_mvi h13) ?_
  refine sT rfl rfl (fun h => r_add (sel_t h :) (sel_t h :) (wi (by omega) (by omega))) ?_
  refine sT rfl rfl (fun h => r_mvi h10) ?_
  refine sT rfl rfl (fun h => r_lt (sel_t h :) (sel_t h :)) ?_
  refine s1 (r_and rfl rfl) ?_
  refine wn ?_
  refine c_cond rfl (fun h => (c_skip (t_n ?_))) (fun h => (c_exit (t_x (t_x (b_x (t_n ?_))))))
  · have hi : i < 32 ∧ bit + i < M := by simp at h; omega
    clear h
    have e102 := shr32 mask i hi.1
    have hml2 : mask / 2 ^ i < 2 ^ 32 := Nat.lt_of_le_of_lt (Nat.div_le_self _ _) (by omega)
    have e103 := and1 (mask / 2 ^ i) hml2
    refine c_seq ?_
    refine c_block ?_
    refine c_sreg rfl ?_
    refine s1 (r_mvi h2) ?_
    refine s1 (r_mvi h13) ?_
    refine s1 (r_shr rfl rfl (by omega) e102) ?_
    refine s1 (r_band rfl rfl e103) ?_
    refine s1 (r_eq rfl rfl) ?_
    refine wn ?_
    refine c_mid1 (fun e w' => ∃ s, e 2 = .int .u32 (mask : Nat) ∧ e 7 = .bool true ∧ e 8 = .slice a5 S.length c5 ∧ e 10 = .int .i64 (M : Nat) ∧ e 11 = .int .i64 (bit : Nat) ∧ e 12 = .slice a7 S.length c7 ∧ e 13 = .int .i64 (i : Nat) ∧ Mem w No w' [bk b2 (recV x0 a cap) 47, own 25 12 a4 x.es.length c4 (evsC x.es), own 5 1 a5 S.length c5 (u8s S), own 5 1 a7 S.length c7 (u8s s)] ∧ Turned S mask bit (i + 1) s) ?_ ?_
    · refine c_cond rfl (fun h => ?_) (fun h => (c_skip (t_n ?_)))
      · have hb : mask.testBit i = true := (div_bit mask i).1 (by generalize mask / 2 ^ i % 2 = z at h; simp at h; omega)
        have hsl := htu.1
        have hq : (bit + i) / 8 < s.length := by omega
        have e109 : IntKind.i64.wrap (((bit : Nat) : Int) + ((i : Nat) : Int)) = ((bit + i : Nat) : Int) := wi (by omega) (by omega)
        have e110 : IntKind.i64.wrap (((bit + i : Nat) : Int).tdiv 8) = (((bit + i) / 8 : Nat) : Int) := by rw [show ((bit + i : Nat) : Int).tdiv 8 = _ from tdivN (bit + i) 8]; exact wi (by omega) (by omega)
        have e124 : ((bit + i : Nat) : Int).tmod 8 = (((bit + i) % 8 : Nat) : Int) := tmodN (bit + i) 8
        have hr8 : (bit + i) % 8 < 8 := Nat.mod_lt _ (by decide)
        have hnn := nth_u8s s ((bit + i) / 8) hq
        refine c_draw2 mixed [(0, some 0), (1, some 0), (2, some 0), (3, some 0), (4, some 0), (5, some 0), (6, some 0), (7, some 0), (8, some 0), (9, some 0), (10, some 0), (12, some 0), (13, some 0), (14, some 0), (15, some 0), (16, some 0), (11, some 2), (17, some 0), (18, some 0), (19, none)] [0, 0, 0, 0, 0, 0, 0, 0, 0, 0, 0, 0, 0, 0, 0, 0, 0, 0, 0, 0] (Sof mm) (Sof mm) (fun _ h => h) (by kernel_rfl) rfl rfl (by kernel_rfl) (fun w8 hc => ?_)
        have mm := mm.frame hc
        refine q01 rfl (fun w => r_mvs h12) ?_
        refine q01 rfl (fun w => r_mvi h11) ?_
        refine q01 rfl (fun w => r_mvi h13) ?_
        refine q01 rfl (fun w => r_add rfl rfl e109) ?_
        refine q01 rfl (fun w => r_quo rfl rfl (by decide) e110) ?_
        refine q01 rfl (fun w => r_mvs h12) ?_
        refine q01 rfl (fun w => r_mvi h11) ?_
        refine q01 rfl (fun w => r_mvi h13) ?_
        refine q01 rfl (fun w => r_add rfl rfl e109) ?_
        refine q01 rfl (fun w => r_quo rfl rfl (by decide) e110) ?_
        refine q01 rfl (fun w => r_ix rfl rfl (by omega) (by omega) ((mm.c 3 rfl).some hnn)) ?_
        refine q01 rfl (fun w => r_mvi h11) ?_
        refine q01 rfl (fun w => r_mvi h13) ?_
        refine q01 rfl (fun w => r_add rfl rfl e109) ?_
        refine q01 rfl (fun w => r_rem rfl rfl (by decide) e124) ?_
        refine q01 rfl (fun w => r_shl rfl rfl (by omega) (shl8 _ hr8)) ?_
        refine qA1 rfl (fun w m => r_ldc rfl (m.c 3 rfl) hnn) mm ?_
        refine q01 rfl (fun w => r_bxor rfl rfl (bx8j _ _ hr8)) ?_
        refine q01 rfl (fun w => r_ix rfl rfl (by omega) (by omega) ((mm.c 3 rfl).some hnn)) ?_
        refine qs rfl (o_stc mm 3 rfl rfl rfl rfl (by omega) fun w9 mm => ⟨trivial, ?_⟩)
        refine qn (t_n ?_)
        have hset := setN_u8 s ((bit + i) / 8) (s.getD ((bit + i) / 8) 0 ^^^ UInt8.ofNat (2 ^ ((bit + i) % 8)))
        have hset2 : setN (u8s s) ((((bit + i) / 8 : Nat) : Int).toNat * 1) (.int .u8 (((s.getD ((bit + i) / 8) 0 ^^^ UInt8.ofNat (2 ^ ((bit + i) % 8))).toNat : Nat) : Int)) = u8s (flipB s (bit + i)) := by rw [Nat.mul_one]; exact hset
        have mm := mm.castg rfl hset2
        exact ⟨_, h2, h7, h8, h10, h11, h12, h13, mm, turned_flip htu hb (by omega)⟩
      · have hb : mask.testBit i = false := by
          cases hq : mask.testBit i with
          | false => rfl
          | true =>
            rw [(div_bit mask i).2 hq] at h
            cases h
        exact ⟨s, h2, h7, h8, h10, h11, h12, h13, mm, turned_same htu hb⟩
    clear mm htu h2 h7 h8 h10 h11 h12 h13
    rintro e w9 ⟨s, h2, h7, h8, h10, h11, h12, h13, mm, htu⟩
    refine c_region rfl ?_
    refine s1 (r_mvi h13) ?_
    refine s1 (r_add rfl rfl (wi (by omega) (by omega))) ?_
    refine s1 (r_asi rfl) ?_
    refine wn (t_n ?_)
    exact ⟨kk - 1, by omega, i + 1, s, by omega, h2, h7, h8, h10, h11, h12, rfl, mm, htu, by omega⟩
  have hi32 : i ≤ 32 := by omega
  clear h
  have hsl := htu.1
  have hcr := own_le (mm.o 3 rfl)
  have hSl : Sl w9 (.slice a7 S.length c7) s := ⟨a7, c7, by rw [hsl], by omega, mm.c 3 rfl⟩
  have hT := c_fTake s (by omega) _ w9 hSl
  by_cases heq : s = S
  · have e1 : takeF s = (x, 0) := by rw [heq, htake]
    rw [e1] at hT
    refine c_sreg rfl ?_
    refine s1 (r_mvs h12) ?_
    refine so (o_c1 rfl hT ?_)
    rintro _ w10 ⟨a10, c10, rfl, hc, hn⟩
    have mm := mm.new hc hn
    refine s1 (r_mvu rfl) ?_
    refine s1 (r_extg rfl rfl) ?_
    refine s1 (r_exti rfl rfl) ?_
    refine so (o_al mm fun b11 w11 mm => ?_)
    refine ss (o_sta mm 5 rfl rfl rfl rfl rfl (Nat.le_of_ble_eq_true rfl) fun w12 mm => ?_)
    refine s1 (r_asi rfl) ?_
    refine wn ?_
    refine c_seq ?_
    refine c_sreg rfl ?_
    refine s1 (r_mvs h12) ?_
    refine s1 (r_b2s rfl (mm.c 3 rfl) (by omega)) ?_
    refine s1 (r_mvs h8) ?_
    refine s1 (r_b2s rfl (mm.c 2 rfl) (by omega)) ?_
    refine s1 (r_seq rfl rfl) ?_
    refine wn ?_
    refine c_cond rfl (fun h => ?_) (fun h => (c_skip (t_n ?_)))
    · refine c_sreg rfl ?_
      refine s1 (r_mvi rfl) ?_
      refine s1 (r_eq rfl rfl) ?_
      refine s1 (r_asb rfl) ?_
      refine wn ?_
      exact c_ret (ret1 rfl rfl ⟨rfl, mm.chg⟩)
    · exfalso
      rw [heq] at h
      simp at h
  · have hno : openL s = none := by
      rw [hput] at htu heq
      exact turned_open htu (by rw [← hput]; omega) hi32 heq
    have htk : takeF s = (rec0, 4) := by
      unfold takeF
      rw [if_neg (by omega), hno]
    rw [htk] at hT
    refine c_sreg rfl ?_
    refine s1 (r_mvs h12) ?_
    refine so (o_c1 rfl hT ?_)
    rintro _ w13 ⟨a13, c13, rfl, hc, hn⟩
    have mm := mm.new hc hn
    refine s1 (r_mvu rfl) ?_
    refine s1 (r_extg rfl rfl) ?_
    refine s1 (r_exti rfl rfl) ?_
    refine so (o_al mm fun b14 w14 mm => ?_)
    refine ss (o_sta mm 5 rfl rfl rfl rfl rfl (Nat.le_of_ble_eq_true rfl) fun w15 mm => ?_)
    refine s1 (r_asi rfl) ?_
    refine wn ?_
    have mm : Mem w No _ [bk b2 (recV x0 a cap) 47, own 25 12 a4 x.es.length c4 (evsC x.es), own 5 1 a5 S.length c5 (u8s S), own 5 1 a7 S.length c7 (u8s s), own 25 12 a13 rec0.es.length c13 (evsC rec0.es), bk b14 (recV rec0 a13 c13) 47] := mm
    refine c_seq ?_
    refine c_sreg rfl ?_
    refine s1 (r_mvs h12) ?_
    refine s1 (r_b2s rfl (mm.c 3 rfl) (by omega)) ?_
    refine s1 (r_mvs h8) ?_
    refine s1 (r_b2s rfl (mm.c 2 rfl) (by omega)) ?_
    refine s1 (r_seq rfl rfl) ?_
    refine wn ?_
    refine c_cond rfl (fun h => ?_) (fun h => (c_skip (t_n ?_)))
    · exfalso
      exact heq (by simpa using h)
    refine c_sreg rfl ?_
    refine s1 (r_mvi rfl) ?_
    refine s1 (r_eq rfl rfl) ?_
    refine s1 (r_mvb rfl) ?_
    refine sT rfl rfl (fun h => r_lda rfl (mm.b 5 rfl) rfl) ?_
    refine sT rfl rfl (fun h => r_bd bN rfl) ?_
    refine sTw (I := Sof mm) rfl rfl mm (fun h => o_c2 (sel_t h :) (sel_t h :) (c_same07 rec0 rec0 recW_0 recW_0 (a := a13) (c := c13) (a' := none) (c' := 0) _ (Cells.nil _ _) (Cells.nil _ _)) (fun _ _ hh => ⟨hh.1, mm.frame hh.2⟩)) (fun w16 mm => ?_)
    refine s1 (r_and rfl rfl) ?_
    refine s1 (r_asb rfl) ?_
    refine wn ?_
    refine c_ret (ret1 rfl rfl ⟨congrArg Value.bool (?_ : _ = true), mm.chg⟩)
    simp
end Go.Proofs.Ytgdbbaggkoillaa

