/- crc: Step, Sum, four, Seal, Open; slices: Concat, Clone, Grow: walks. -/
import Derived.Test.YtgdbbaggkoillaaCr
import Derived.Test.YtgdbbaggkoillaaTa
namespace Go.Proofs.Ytgdbbaggkoillaa
open K
set_option maxRecDepth 100000
set_option maxHeartbeats 4000000

def u32v (x : BitVec 32) : Value := .int .u32 ((x.toNat : Nat) : Int)
theorem c_step (r : BitVec 32) (c : UInt8) (w : World) : Cl Try.prog 89 #[.int .u32 ((r.toNat : Nat) : Int), u8 c] w (fun v w' => v = .int .u32 (((crcStep r c).toNat : Nat) : Int) ∧ Chg No w w') := by
  refine f_enter (args := [_, _]) Try.func89 rfl rfl ?_
  have mm := Mem.nil No w
  refine c_sreg rfl ?_
  refine s1 (r_asi rfl) ?_
  refine wn ?_
  refine c_sreg rfl ?_
  refine s1 (r_mvi rfl) ?_
  refine s1 (r_mvi rfl) ?_
  refine s1 (r_cv rfl (bu32 c)) ?_
  refine s1 (r_bxor rfl rfl (bx32 _ _)) ?_
  refine s1 (r_asi rfl) ?_
  refine wn ?_
  refine c_seq ?_
  refine c_sreg rfl ?_
  refine s1 (r_mvi rfl) ?_
  refine wn ?_
  refine c_block ?_
  refine c_loop (fun k e w' => ∃ i, k + i = 8 ∧ e 0 = .int .u32 (((crcIt i (r ^^^ c.toBitVec.setWidth 32)).toNat : Nat) : Int) ∧ e 9 = .int .i64 (i : Nat) ∧ Mem w No w' []) 8 ?_ ?_
  · exact ⟨0, rfl, rfl, rfl, mm⟩
  clear mm
  rintro k e w9 ⟨i, hki, h0, h9, mm⟩
  refine c_sreg rfl ?_
  refine s1 (r_lt h9 rfl) ?_
  refine wn ?_
  refine c_seq ?_
  refine c_cond rfl (fun h => (c_skip (t_n ?_))) (fun h => (c_exit (t_x (t_x (b_x (t_n ?_))))))
  · have hi : i < 8 := by simp at h; omega
    clear h
    refine c_seq ?_
    refine c_block ?_
    refine c_region rfl ?_
    refine s1 (r_mvi h0) ?_
    refine s1 (r_shr rfl rfl (by decide) (bs32 _)) ?_
    refine s1 (r_mvi h0) ?_
    refine s1 (r_band rfl rfl (ba32 _ 1#32)) ?_
    refine s1 (r_neg rfl (bn32 _)) ?_
    refine s1 (r_band rfl rfl (ba32 poly _)) ?_
    refine s1 (r_bxor rfl rfl (bx32 _ _)) ?_
    refine s1 (r_asi rfl) ?_
    refine wn (b_n (t_n ?_))
    refine c_region rfl ?_
    refine s1 (r_add h9 rfl (wi (by omega) (by omega))) ?_
    refine s1 (r_mvi rfl) ?_
    refine wn (t_n ?_)
    exact ⟨k - 1, by omega, i + 1, by omega, rfl, rfl, mm⟩
  · have hi : i = 8 := by simp at h; omega
    subst hi
    refine c_sreg rfl ?_
    refine s1 (r_mvi h0) ?_
    refine s1 (r_asi rfl) ?_
    refine wn ?_
    exact c_ret (ret1 rfl rfl ⟨rfl, mm.chg⟩)

theorem crcReg_snoc (r : BitVec 32) (b : List UInt8) (i : Nat) (h : i < b.length) : crcReg r (b.take (i + 1)) = crcStep (crcReg r (b.take i)) (b.getD i 0) := by
  have : b.take (i + 1) = b.take i ++ [b.getD i 0] := by rw [List.take_succ_eq_append_getElem h]; simp [List.getD, h]
  rw [this, crcReg, List.foldl_append]; rfl
theorem c_sum (b : List UInt8) (hb : b.length ≤ 4611686018427387904) (v : Value) (w : World) (hs : Sl w v b) : Cl Try.prog 70 #[v] w (fun v w' => v = .int .u32 (((crcSum b).toNat : Nat) : Int) ∧ Chg No w w') := by
  obtain ⟨a, c, rfl, hc, H⟩ := hs
  refine f_enter (args := [_]) Try.func70 rfl rfl ?_
  have mm := Mem.nil No w
  refine c_sreg rfl ?_
  refine s1 (r_asi rfl) ?_
  refine wn ?_
  refine c_sreg rfl ?_
  refine s1 (r_asi rfl) ?_
  refine wn ?_
  refine c_seq ?_
  refine c_sreg rfl ?_
  refine s1 (r_mvs rfl) ?_
  refine s1 (r_len rfl) ?_
  refine s1 (r_mvi rfl) ?_
  refine wn ?_
  refine c_block ?_
  refine c_loop (fun k e w' => ∃ i, k + i = b.length ∧ e 3 = .int .u32 (((crcReg (BitVec.allOnes 32) (b.take i)).toNat : Nat) : Int) ∧ e 6 = .slice a b.length c ∧ e 7 = .int .i64 (b.length : Nat) ∧ e 8 = .int .i64 (i : Nat) ∧ Mem w No w' []) b.length ?_ ?_
  · exact ⟨0, rfl, rfl, rfl, rfl, rfl, mm⟩
  clear mm
  rintro k e w9 ⟨i, hki, h3, h6, h7, h8, mm⟩
  refine c_sreg rfl ?_
  refine s1 (r_lt h8 h7) ?_
  refine wn ?_
  refine c_seq ?_
  refine c_cond rfl (fun h => (c_skip (t_n ?_))) (fun h => (c_exit (t_x (t_x (b_x (t_n ?_))))))
  · have hi : i < b.length := by simp at h; omega
    clear h
    refine c_seq ?_
    refine c_block ?_
    refine c_sreg rfl ?_
    refine s1 (r_ix h6 h8 (by omega) (by omega) (H.some (nth_u8s b i hi))) ?_
    refine s1 (r_ldc rfl (mm.ro H) (nth_u8s b i hi)) ?_
    refine s1 (r_asi rfl) ?_
    refine wn ?_
    refine c_region rfl ?_
    refine s1 (r_mvi h3) ?_
    refine s1 (r_mvi rfl) ?_
    refine so (o_c2 rfl rfl (c_step _ _ _) ?_)
    rintro _ w2 ⟨rfl, hc⟩
    have mm := mm.frame hc
    refine s1 (r_asi rfl) ?_
    refine wn (b_n (t_n ?_))
    refine c_region rfl ?_
    refine s1 (r_add h8 rfl (wi (by omega) (by omega))) ?_
    refine s1 (r_mvi rfl) ?_
    refine wn (t_n ?_)
    refine ⟨k - 1, by omega, i + 1, by omega, ?_, h6, h7, rfl, mm⟩
    rw [crcReg_snoc _ _ _ hi]
    exact h3 ▸ rfl
  · have hi : i = b.length := by simp at h; omega
    subst hi
    rw [List.take_length] at h3
    refine c_sreg rfl ?_
    refine s1 (r_mvi h3) ?_
    refine s1 (r_bxor rfl rfl (bx32 _ (BitVec.allOnes 32))) ?_
    refine s1 (r_asi rfl) ?_
    refine wn ?_
    exact c_ret (ret1 rfl rfl ⟨rfl, mm.chg⟩)

def part4 (s : BitVec 32) (i : Nat) : List UInt8 := (four s).take i ++ List.replicate (4 - i) 0
theorem setN_part4 (s : BitVec 32) (i : Nat) (h : i < 4) : setN (u8s (part4 s i)) (0 + ((i : Nat) : Int).toNat * 1) (u8 ((four s).getD i 0)) = u8s (part4 s (i + 1)) := by
  match i, h with
  | 0, _ => rfl | 1, _ => rfl | 2, _ => rfl | 3, _ => rfl
theorem part4_length (s : BitVec 32) (i : Nat) (h : i ≤ 4) : (u8s (part4 s i)).length = 4 := by rw [u8s_length]; simp [part4, four_length]; omega
theorem c_four (s : BitVec 32) (w : World) : Cl Try.prog 69 #[.int .u32 ((s.toNat : Nat) : Int)] w (fun v w' => v = .agg (u8s (four s)).toArray ∧ Chg No w w') := by
  refine f_enter (args := [_]) Try.func69 rfl rfl ?_
  have mm := Mem.nil No w
  refine c_sreg rfl ?_
  refine so (o_al mm fun b2 w2 mm => ?_)
  refine wn ?_
  refine c_sreg rfl ?_
  refine so (o_al mm fun b3 w3 mm => ?_)
  refine wn ?_
  refine c_seq ?_
  refine c_sreg rfl ?_
  refine s1 (r_mvi rfl) ?_
  refine wn ?_
  have mm : Mem w No w3 [bk b2 (u8s [0, 0, 0, 0]) 96, bk b3 (u8s (part4 s 0)) 96] := mm
  refine c_block ?_
  refine c_loop (fun k e w' => ∃ i, k + i = 4 ∧ e 0 = .int .u32 ((s.toNat : Nat) : Int) ∧ e 2 = .pointer (some ⟨b2, 0, none⟩) ∧ e 3 = .pointer (some ⟨b3, 0, none⟩) ∧ e 5 = .int .i64 (i : Nat) ∧ Mem w No w' [bk b2 (u8s [0, 0, 0, 0]) 96, bk b3 (u8s (part4 s i)) 96]) 4 ?_ ?_
  · exact ⟨0, rfl, rfl, rfl, rfl, rfl, mm⟩
  clear mm
  rintro k e w9 ⟨i, hki, h0, h2, h3, h5, mm⟩
  refine c_sreg rfl ?_
  refine s1 (r_lt h5 rfl) ?_
  refine wn ?_
  refine c_seq ?_
  refine c_cond rfl (fun h => (c_skip (t_n ?_))) (fun h => (c_exit (t_x (t_x (b_x (t_n ?_))))))
  · have hi : i < 4 := by simp at h; omega
    clear h
    refine c_seq ?_
    refine c_block ?_
    refine c_sreg rfl ?_
    refine s1 (r_mvi h5) ?_
    refine s1 (r_asi rfl) ?_
    refine wn ?_
    refine c_region rfl ?_
    refine s1 (r_mvi rfl) ?_
    refine s1 (r_mvi h0) ?_
    refine s1 (r_mvi rfl) ?_
    refine s1 (r_mul rfl rfl (wi (by omega) (by omega))) ?_
    refine s1 (r_shr rfl rfl (by omega) rfl) ?_
    refine s1 (r_cv rfl rfl) ?_
    refine s1 (r_ixa h3 rfl (by omega) (by omega)) ?_
    refine ss (o_st mm 1 rfl rfl rfl rfl (by have := part4_length s i (by omega); rw [this]; simp [Nat.blt_eq]; omega) fun w4 mm => ?_)
    refine wn (b_n (t_n ?_))
    rw [four_get s i hi] at mm
    have mm : Mem w No _ [bk b2 (u8s [0, 0, 0, 0]) 96, bk b3 (setN (u8s (part4 s i)) (0 + ((i : Nat) : Int).toNat * 1) (u8 ((four s).getD i 0))) 96] := mm
    rw [setN_part4 s i hi] at mm
    refine c_region rfl ?_
    refine s1 (r_add h5 rfl (wi (by omega) (by omega))) ?_
    refine s1 (r_mvi rfl) ?_
    refine wn (t_n ?_)
    exact ⟨k - 1, by omega, i + 1, by omega, h0, h2, h3, rfl, mm⟩
  · have hi : i = 4 := by simp at h; omega
    subst hi
    refine c_sreg rfl ?_
    refine s1 (r_lda h3 (mm.b 1 rfl) rfl) ?_
    refine ss (o_sta mm 0 rfl h2 rfl rfl rfl (Nat.le_of_ble_eq_true rfl) fun w5 mm => ?_)
    refine wn ?_
    exact c_ret (retc rfl h2 (mm.b 0 rfl) rfl ⟨rfl, mm.chg⟩)

theorem c_grow (n : Nat) (hn : n ≤ 1099511627776) (w : World) : Cl Try.prog 90 #[.slice none 0 0, .int .i64 (n : Nat)] w (fun v w' => ∃ a c, v = .slice a 0 c ∧ Chg No w w' ∧ New w w' (own 5 1 a 0 c [])) := by
  refine f_enter (args := [_, _]) Try.func90 rfl rfl ?_
  have mm := Mem.nil No w
  refine c_sreg rfl ?_
  refine s1 (r_ass rfl) ?_
  refine wn ?_
  refine c_seq ?_
  refine c_sreg rfl ?_
  refine s1 (r_mvi rfl) ?_
  refine s1 (r_lt rfl rfl) ?_
  refine wn ?_
  refine c_cond rfl (fun h => ?_) (fun h => (c_skip (t_n ?_)))
  · simp at h; omega
  clear h
  refine c_seq ?_
  refine c_sreg rfl ?_
  refine s1 (r_mvi rfl) ?_
  refine s1 (r_mvs rfl) ?_
  refine s1 (r_cap rfl) ?_
  refine s1 (r_mvs rfl) ?_
  refine s1 (r_len rfl) ?_
  refine s1 (r_sub rfl rfl (show IntKind.i64.wrap _ = 0 from by decide)) ?_
  refine s1 (r_sub rfl rfl ((wi (by omega) (by omega)).trans (Int.sub_zero _))) ?_
  refine s1 (r_asi rfl) ?_
  refine wn ?_
  refine c_sreg rfl ?_
  refine s1 (r_mvi rfl) ?_
  refine s1 (r_gt rfl rfl) ?_
  refine wn ?_
  refine c_mid0 (fun e w' => ∃ a c, e 0 = .slice a 0 c ∧ Mem w No w' [own 5 1 a 0 c []]) ?_ ?_
  · refine c_cond rfl (fun h => ?_) (fun h => (c_skip (t_n ?_)))
    · have h0 : 0 < n := by simp at h; omega
      refine c_region rfl ?_
      refine s1 (r_mvs rfl) ?_
      refine s1 (r_mvs rfl) ?_
      refine s1 (r_cap rfl) ?_
      refine s1 (r_slh rfl rfl (by omega) (by omega)) ?_
      refine s1 (r_mvi rfl) ?_
      refine so (o_apz mm rfl rfl h0 (by unfold maxLen; omega) (by omega) fun a2 c2 w2 mm hcap2 => ?_)
      refine s1 (r_mvs rfl) ?_
      refine s1 (r_len rfl) ?_
      refine s1 (r_slh rfl rfl (by omega) (by omega)) ?_
      refine s1 (r_ass rfl) ?_
      refine wn (t_n ?_)
      exact ⟨_, _, rfl, mm⟩
    · exact ⟨none, 0, rfl, mm.nilrow⟩
  clear mm
  rintro e w9 ⟨a, c, h0, mm⟩
  refine c_sreg rfl ?_
  refine s1 (r_mvs h0) ?_
  refine s1 (r_ass rfl) ?_
  refine wn ?_
  exact c_ret (ret1 rfl rfl ⟨a, c, rfl, mm.chg, mm.isNew 0 rfl⟩)
end Go.Proofs.Ytgdbbaggkoillaa

