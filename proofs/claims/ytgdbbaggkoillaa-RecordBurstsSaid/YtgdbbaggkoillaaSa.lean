/- The references' small functions: kithref01.Put, kithref02.Step, Sum, Seal, kithref05's, kithref06.in, May, Put: walks. -/
import Derived.Test.YtgdbbaggkoillaaCb
import Derived.Test.YtgdbbaggkoillaaRv
import Derived.Test.YtgdbbaggkoillaaEy
import Derived.Test.YtgdbbaggkoillaaKn
namespace Go.Proofs.Ytgdbbaggkoillaa
open K
set_option maxRecDepth 100000
set_option maxHeartbeats 4000000

theorem nat_tmod (k m : Nat) : ((k : Nat) : Int).tmod ((m : Nat) : Int) = ((k % m : Nat) : Int) := by rw [Int.tmod_eq_emod_of_nonneg (by omega)]; rfl
theorem nat_tdiv (k m : Nat) : ((k : Nat) : Int).tdiv ((m : Nat) : Int) = ((k / m : Nat) : Int) := by rw [Int.tdiv_eq_ediv_of_nonneg (by omega)]; rfl
theorem wdiv64 (k : Nat) (hk : k < 2 ^ 64) : IntKind.u64.wrap (((k : Nat) : Int).tdiv 128) = ((k / 128 : Nat) : Int) := by
  have h : ((k : Nat) : Int).tdiv 128 = ((k / 128 : Nat) : Int) := nat_tdiv k 128
  rw [h]; exact wu64 (by omega) (by omega)
theorem wdiv2 (k : Nat) (hk : k < 2 ^ 32) : IntKind.u32.wrap (((k : Nat) : Int).tdiv 2) = ((k / 2 : Nat) : Int) := by
  have h : ((k : Nat) : Int).tdiv 2 = ((k / 2 : Nat) : Int) := nat_tdiv k 2
  rw [h]; exact wu32 (by omega) (by omega)
theorem wdiv256 (k : Nat) (hk : k < 2 ^ 32) : IntKind.u32.wrap (((k : Nat) : Int).tdiv 256) = ((k / 256 : Nat) : Int) := by
  have h : ((k : Nat) : Int).tdiv 256 = ((k / 256 : Nat) : Int) := nat_tdiv k 256
  rw [h]; exact wu32 (by omega) (by omega)
theorem c_vput1 (m : Nat) (hm : m < 2 ^ 64) (w : World) : Cl Try.prog 61 #[.int .u64 m] w (fun v w' => ∃ a c, v = .slice a (vput m).length c ∧ Chg No w w' ∧ New w w' (own 5 1 a (vput m).length c (u8s (vput m)))) := by
  have hl := vput_len10 m hm
  refine f_enter (args := [_]) Try.func61 rfl rfl ?_
  have mm := Mem.nil No w
  refine c_sreg rfl ?_
  refine s1 (r_ass rfl) ?_
  refine wn ?_
  refine c_sreg rfl ?_
  refine so (o_bs0 mm fun a2 c2 w2 mm => ?_)
  refine s1 (r_ass rfl) ?_
  refine wn ?_
  refine c_seq ?_
  refine c_block ?_
  refine c_loop (fun k e w' => ∃ (x : Nat) (a : Option Addr) (c : Nat) (pre : List UInt8), k = x ∧ x ≤ m ∧ e 0 = .int .u64 x ∧ e 3 = .slice a pre.length c ∧ Mem w No w' [own 5 1 a pre.length c (u8s pre)] ∧ pre ++ vput x = vput m) m ?_ ?_
  · exact ⟨m, _, _, [], rfl, Nat.le_refl _, rfl, rfl, mm, rfl⟩
  clear mm
  rintro k e w' ⟨x, a, c, pre, rfl, hxm, h0, h3, mm, hp⟩
  have hpl : pre.length + (vput k).length ≤ 10 := by rw [← hp, List.length_append] at hl; exact hl
  refine c_seq ?_
  refine c_sreg rfl ?_
  refine s1 (r_mvi h0) ?_
  refine s1 (r_ge rfl rfl) ?_
  refine wn ?_
  refine c_cond rfl (fun h => (c_skip (t_n ?_))) (fun h => (c_exit (t_x (t_x (b_x (t_n ?_))))))
  · have hk : 128 ≤ k := by simp at h; omega
    have hs : vput k = UInt8.ofNat (k % 128 + 128) :: vput (k / 128) := by rw [vput, if_neg (by omega)]
    refine c_block ?_
    refine c_sreg rfl ?_
    refine s1 (r_mvs h3) ?_
    refine s1 (r_mvi h0) ?_
    refine s1 (r_rem rfl rfl (by decide) (nat_tmod k 128)) ?_
    refine s1 (r_add rfl rfl (show IntKind.u64.wrap _ = ((k % 128 + 128 : Nat) : Int) from wu64 (by omega) (by omega))) ?_
    refine s1 (r_cv rfl rfl) ?_
    refine so (o_bi1 mm rfl fun a3 c3 w3 mm => ?_)
    refine so (o_ap mm 0 rfl rfl rfl (src_own mm 1 rfl rfl) (by omega) (by unfold maxLen; omega) fun a4 c4 w4 mm => ?_)
    refine s1 (r_ass rfl) ?_
    refine wn ?_
    refine c_region rfl ?_
    refine s1 (r_mvi h0) ?_
    refine s1 (r_quo rfl rfl (by decide) (wdiv64 k (by omega))) ?_
    refine s1 (r_asi rfl) ?_
    refine wn (b_n (t_n ?_))
    have h2 := mm.pk [0] (by decide)
    have hl2 : (pre ++ [UInt8.ofNat (k % 128 + 128)]).length = pre.length + 1 := by simp
    rw [u8_any] at h2
    have h3 := h2.cst1 (n' := (pre ++ [UInt8.ofNat (k % 128 + 128)]).length) (cs' := u8s (pre ++ [UInt8.ofNat (k % 128 + 128)])) hl2.symm (u8s_append pre [UInt8.ofNat (k % 128 + 128)]).symm
    refine ⟨k / 128, by omega, k / 128, _, _, pre ++ [UInt8.ofNat (k % 128 + 128)], rfl, by omega, rfl, ?_, h3, ?_⟩
    · rw [hl2]; rfl
    · rw [List.append_assoc, ← hp, hs]; rfl
  · have hk : k < 128 := by simp at h; omega
    have hs : vput k = [UInt8.ofNat k] := by rw [vput, if_pos hk]
    rw [hs, List.length_singleton] at hpl
    refine c_sreg rfl ?_
    refine s1 (r_mvs h3) ?_
    refine s1 (r_mvi h0) ?_
    refine s1 (r_cv rfl rfl) ?_
    refine so (o_bi1 mm rfl fun a5 c5 w5 mm => ?_)
    refine so (o_ap mm 0 rfl rfl rfl (src_own mm 1 rfl rfl) (by omega) (by unfold maxLen; omega) fun a6 c6 w6 mm => ?_)
    refine s1 (r_ass rfl) ?_
    refine wn ?_
    have h2 := mm.pk [0] (by decide)
    rw [u8_any] at h2
    have hz : vput m = pre ++ [UInt8.ofNat k] := by rw [← hp, hs]
    have hl2 : (pre ++ [UInt8.ofNat k]).length = pre.length + 1 := by simp
    have h3 := h2.cst1 (n' := (pre ++ [UInt8.ofNat k]).length) (cs' := u8s (pre ++ [UInt8.ofNat k])) hl2.symm (u8s_append pre [UInt8.ofNat k]).symm
    rw [hz]
    refine c_ret (ret1 rfl rfl ⟨_, _, ?_, mm.chg, h3.isNew 0 rfl⟩)
    rw [hl2]; rfl

theorem lsb_mod (x : BitVec 32) : x.getLsbD 0 = decide (x.toNat % 2 = 1) := by
  rw [BitVec.getLsbD]
  exact Nat.testBit_zero x.toNat
theorem shr1_div (x : BitVec 32) : ((x >>> 1).toNat : Int) = ((x.toNat / 2 : Nat) : Int) := by rw [BitVec.toNat_ushiftRight, Nat.shiftRight_eq_div_pow]
theorem c_step2 (r : BitVec 32) (c : UInt8) (w : World) : Cl Try.prog 95 #[.int .u32 ((r.toNat : Nat) : Int), u8 c] w (fun v w' => v = .int .u32 (((crcStep r c).toNat : Nat) : Int) ∧ Chg No w w') := by
  refine f_enter (args := [_, _]) Try.func95 rfl rfl ?_
  have mm := Mem.nil No w
  refine c_sreg rfl ?_
  refine s1 (r_asi rfl) ?_
  refine wn ?_
  refine c_sreg rfl ?_
  refine s1 (r_mvi rfl) ?_
  refine s1 (r_mvi rfl) ?_
  refine s1 (r_cv rfl (bu32 c)) ?_
  refine s1 (r_bxor rfl rfl (bx32 _ _)) ?_
  refine s1 (r_asi rfl) ?_
  refine wn ?_
  refine c_seq ?_
  refine c_sreg rfl ?_
  refine s1 (r_asi rfl) ?_
  refine wn ?_
  refine c_block ?_
  refine c_loop (fun k e w' => ∃ i, k + i = 8 ∧ e 0 = .int .u32 (((crcIt i (r ^^^ c.toBitVec.setWidth 32)).toNat : Nat) : Int) ∧ e 5 = .int .i64 (i : Nat) ∧ Mem w No w' []) 8 ?_ ?_
  · exact ⟨0, rfl, rfl, rfl, mm⟩
  clear mm
  rintro k e w9 ⟨i, hki, h0, h5, mm⟩
  refine c_seq ?_
  refine c_sreg rfl ?_
  refine s1 (r_mvi h5) ?_
  refine s1 (r_lt rfl rfl) ?_
  refine wn ?_
  refine c_cond rfl (fun h => (c_skip (t_n ?_))) (fun h => (c_exit (t_x (t_x (b_x (t_n ?_))))))
  · have hi : i < 8 := by simp at h; omega
    clear h
    have hx : crcIt (i + 1) (r ^^^ c.toBitVec.setWidth 32) = crcM (crcIt i (r ^^^ c.toBitVec.setWidth 32)) := rfl
    generalize hz : crcIt (i + 1) (r ^^^ c.toBitVec.setWidth 32) = z at hx
    generalize crcIt i (r ^^^ c.toBitVec.setWidth 32) = x at *
    have hlt := x.isLt
    refine c_seq ?_
    refine c_block ?_
    refine c_sreg rfl ?_
    refine s1 (r_mvi h0) ?_
    refine s1 (r_rem rfl rfl (by decide) (nat_tmod x.toNat 2)) ?_
    refine s1 (r_asi rfl) ?_
    refine wn ?_
    refine c_sreg rfl ?_
    refine s1 (r_mvi h0) ?_
    refine s1 (r_quo rfl rfl (by decide) ((wdiv2 x.toNat (by omega)).trans (shr1_div x).symm)) ?_
    refine s1 (r_asi rfl) ?_
    refine wn ?_
    refine c_sreg rfl ?_
    refine s1 (r_mvi rfl) ?_
    refine s1 (r_eq rfl rfl) ?_
    refine wn ?_
    refine c_mid1 (fun e w' => e 0 = .int .u32 ((z.toNat : Nat) : Int) ∧ e 5 = .int .i64 (i : Nat) ∧ Mem w No w' []) ?_ ?_
    · refine c_cond rfl (fun h => ?_) (fun h => (c_skip (t_n ?_)))
      · have hb : x.getLsbD 0 = true := by rw [lsb_mod]; simp at h ⊢; omega
        refine c_region rfl ?_
        refine s1 (r_mvi rfl) ?_
        refine s1 (r_bxor rfl rfl (bx32 _ poly)) ?_
        refine s1 (r_asi rfl) ?_
        refine wn (t_n ?_)
        refine ⟨?_, h5, mm⟩
        rw [hx, crcM_if, hb]; rfl
      · have hb : x.getLsbD 0 = false := by rw [lsb_mod]; simp at h ⊢; omega
        refine ⟨?_, h5, mm⟩
        rw [hx, crcM_if, hb]; rfl
    clear mm h0 h5
    rintro e w9 ⟨h0, h5, mm⟩
    refine c_region rfl ?_
    refine s1 (r_mvi h5) ?_
    refine s1 (r_add rfl rfl (wi (by omega) (by omega))) ?_
    refine s1 (r_asi rfl) ?_
    refine wn (t_n ?_)
    exact ⟨k - 1, by omega, i + 1, by omega, by rw [hz]; exact h0, rfl, mm⟩
  · have hi : i = 8 := by simp at h; omega
    subst hi
    refine c_sreg rfl ?_
    refine s1 (r_mvi h0) ?_
    refine s1 (r_asi rfl) ?_
    refine wn ?_
    exact c_ret (ret1 rfl rfl ⟨rfl, mm.chg⟩)

theorem sub_ones (x : BitVec 32) : IntKind.u32.wrap (4294967295 - ((x.toNat : Nat) : Int)) = (((x ^^^ BitVec.allOnes 32).toNat : Nat) : Int) := by
  have h := x.isLt
  rw [BitVec.xor_allOnes, BitVec.toNat_not, wu32 (by omega) (by omega)]
  omega
theorem c_sum2 (b : List UInt8) (hb : b.length ≤ 4611686018427387904) (v : Value) (w : World) (hs : Sl w v b) : Cl Try.prog 85 #[v] w (fun v w' => v = .int .u32 (((crcSum b).toNat : Nat) : Int) ∧ Chg No w w') := by
  obtain ⟨a, c, rfl, hc, H⟩ := hs
  refine f_enter (args := [_]) Try.func85 rfl rfl ?_
  have mm := Mem.nil No w
  refine c_sreg rfl ?_
  refine s1 (r_asi rfl) ?_
  refine wn ?_
  refine c_sreg rfl ?_
  refine s1 (r_asi rfl) ?_
  refine wn ?_
  refine c_seq ?_
  refine c_sreg rfl ?_
  refine s1 (r_asi rfl) ?_
  refine wn ?_
  refine c_block ?_
  refine c_loop (fun k e w' => ∃ i, k + i = b.length ∧ e 0 = .slice a b.length c ∧ e 3 = .int .u32 (((crcReg (BitVec.allOnes 32) (b.take i)).toNat : Nat) : Int) ∧ e 4 = .int .i64 (i : Nat) ∧ Mem w No w' []) b.length ?_ ?_
  · exact ⟨0, rfl, rfl, rfl, rfl, mm⟩
  clear mm
  rintro k e w9 ⟨i, hki, h0, h3, h4, mm⟩
  refine c_seq ?_
  refine c_sreg rfl ?_
  refine s1 (r_mvi h4) ?_
  refine s1 (r_mvs h0) ?_
  refine s1 (r_len rfl) ?_
  refine s1 (r_lt rfl rfl) ?_
  refine wn ?_
  refine c_cond rfl (fun h => (c_skip (t_n ?_))) (fun h => (c_exit (t_x (t_x (b_x (t_n ?_))))))
  · have hi : i < b.length := by simp at h; omega
    clear h
    refine c_seq ?_
    refine c_block ?_
    refine c_region rfl ?_
    refine s1 (r_mvi h3) ?_
    refine s1 (r_mvs h0) ?_
    refine s1 (r_mvi h4) ?_
    refine s1 (r_ix rfl rfl (by omega) (by omega) (H.some (nth_u8s b i hi))) ?_
    refine s1 (r_ldc rfl (mm.ro H) (nth_u8s b i hi)) ?_
    refine so (o_c2 rfl rfl (c_step2 _ _ _) ?_)
    rintro _ w2 ⟨rfl, hc⟩
    have mm := mm.frame hc
    refine s1 (r_asi rfl) ?_
    refine wn (b_n (t_n ?_))
    refine c_region rfl ?_
    refine s1 (r_mvi h4) ?_
    refine s1 (r_add rfl rfl (wi (by omega) (by omega))) ?_
    refine s1 (r_asi rfl) ?_
    refine wn (t_n ?_)
    refine ⟨k - 1, by omega, i + 1, by omega, h0, ?_, rfl, mm⟩
    rw [crcReg_snoc _ _ _ hi]
    exact h3 ▸ rfl
  · have hi : i = b.length := by simp at h; omega
    subst hi
    rw [List.take_length] at h3
    refine c_sreg rfl ?_
    refine s1 (r_mvi h3) ?_
    refine s1 (r_sub rfl rfl (sub_ones _)) ?_
    refine s1 (r_asi rfl) ?_
    refine wn ?_
    exact c_ret (ret1 rfl rfl ⟨rfl, mm.chg⟩)

theorem four_snoc (s : BitVec 32) (i : Nat) (h : i < 4) : (four s).take (i + 1) = (four s).take i ++ [UInt8.ofNat (s.toNat / 2 ^ (8 * i) % 256)] := by
  have h1 : ∀ n : Nat, UInt8.ofNat (n % 256) = UInt8.ofNat n := fun n => by apply UInt8.toNat_inj.1; simp
  rw [h1]
  match i, h with
  | 0, _ => simp [four] | 1, _ => rfl | 2, _ => rfl | 3, _ => rfl
theorem c_seal2 (b : List UInt8) (hb : b.length ≤ 1000000000000) (v : Value) (w : World) (hs : Sl w v b) : Cl Try.prog 63 #[v] w (fun v w' => ∃ a c, v = .slice a (sealL b).length c ∧ Chg No w w' ∧ New w w' (own 5 1 a (sealL b).length c (u8s (sealL b)))) := by
  obtain ⟨a, c, rfl, hcc, H⟩ := hs
  refine f_enter (args := [_]) Try.func63 rfl rfl ?_
  have mm := Mem.nil No w
  refine c_sreg rfl ?_
  refine s1 (r_ass rfl) ?_
  refine wn ?_
  refine c_sreg rfl ?_
  refine s1 (r_mvs rfl) ?_
  refine so (o_c1 rfl (c_sum2 b (by omega) _ _ ⟨a, c, rfl, hcc, mm.ro H⟩) ?_)
  rintro _ w2 ⟨rfl, hc⟩
  have mm := mm.frame hc
  refine s1 (r_asi rfl) ?_
  refine wn ?_
  generalize hs : crcSum b = s
  refine c_sreg rfl ?_
  refine so (o_bs0 mm fun a3 c3 w3 mm => ?_)
  refine s1 (r_mvs rfl) ?_
  refine so (o_ap mm 0 rfl rfl rfl (src_cells (n := b.length) (mm.ro H) (by rw [u8s_length]; omega) (ones_u8s _) (by decide)) (by omega) (by unfold maxLen; omega) fun a4 c4 w4 mm => ?_)
  refine s1 (r_ass rfl) ?_
  refine wn ?_
  have mm := (mm.pk [0] (by decide)).cst1 (n' := (b ++ (four s).take 0).length) (cs' := u8s (b ++ (four s).take 0)) (by simp) (by simp [u8s])
  refine c_seq ?_
  refine c_sreg rfl ?_
  refine s1 (r_asi rfl) ?_
  refine wn ?_
  refine c_block ?_
  refine c_loop (fun k e w' => ∃ i a' c', k + i = 4 ∧ e 3 = .int .u32 ((s.toNat / 2 ^ (8 * i) : Nat) : Int) ∧ e 4 = .slice a' (b ++ (four s).take i).length c' ∧ e 5 = .int .i64 (i : Nat) ∧ Mem w No w' [own 5 1 a' (b ++ (four s).take i).length c' (u8s (b ++ (four s).take i))]) 4 ?_ ?_
  · refine ⟨0, _, _, rfl, ?_, ?_, rfl, mm⟩
    · show Value.int .u32 ((s.toNat : Nat) : Int) = _
      simp
    · show Value.slice _ (0 + b.length) _ = _
      simp
  clear mm
  rintro k e w9 ⟨i, a', c', hki, h3, h4, h5, mm⟩
  have hl : (b ++ (four s).take i).length ≤ b.length + 4 := by rw [List.length_append, List.length_take, four_length]; omega
  refine c_seq ?_
  refine c_sreg rfl ?_
  refine s1 (r_mvi h5) ?_
  refine s1 (r_lt rfl rfl) ?_
  refine wn ?_
  refine c_cond rfl (fun h => (c_skip (t_n ?_))) (fun h => (c_exit (t_x (t_x (b_x (t_n ?_))))))
  · have hi : i < 4 := by simp at h; omega
    clear h
    have hlt : s.toNat / 2 ^ (8 * i) < 4294967296 := Nat.lt_of_le_of_lt (Nat.div_le_self _ _) s.isLt
    refine c_seq ?_
    refine c_block ?_
    refine c_sreg rfl ?_
    refine s1 (r_mvs h4) ?_
    refine s1 (r_mvi h3) ?_
    refine s1 (r_rem rfl rfl (by decide) (nat_tmod _ 256)) ?_
    refine s1 (r_cv rfl rfl) ?_
    refine so (o_bi1 mm rfl fun a5 c5 w5 mm => ?_)
    refine so (o_ap mm 0 rfl rfl rfl (src_own mm 1 rfl rfl) (by omega) (by unfold maxLen; omega) fun a6 c6 w6 mm => ?_)
    refine s1 (r_ass rfl) ?_
    refine wn ?_
    rw [u8_any] at mm
    have hle : (b ++ (four s).take (i + 1)).length = (b ++ (four s).take i).length + 1 := by rw [four_snoc s i hi, ← List.append_assoc, List.length_append]; rfl
    have mm := (mm.pk [0] (by decide)).cst1 (n' := (b ++ (four s).take (i + 1)).length) (cs' := u8s (b ++ (four s).take (i + 1))) hle.symm (by rw [four_snoc s i hi, ← List.append_assoc, u8s_append (_ ++ _)]; rfl)
    refine c_region rfl ?_
    refine s1 (r_mvi h3) ?_
    refine s1 (r_quo rfl rfl (by decide) ((wdiv256 _ (by omega)).trans (congrArg Nat.cast (show s.toNat / 2 ^ (8 * i) / 256 = s.toNat / 2 ^ (8 * (i + 1)) from by rw [Nat.div_div_eq_div_mul, show 2 ^ (8 * i) * 256 = 2 ^ (8 * (i + 1)) from by rw [Nat.mul_add, Nat.pow_add]])))) ?_
    refine s1 (r_asi rfl) ?_
    refine wn (b_n (t_n ?_))
    refine c_region rfl ?_
    refine s1 (r_mvi h5) ?_
    refine s1 (r_add rfl rfl (wi (by omega) (by omega))) ?_
    refine s1 (r_asi rfl) ?_
    refine wn (t_n ?_)
    refine ⟨k - 1, by omega, i + 1, _, _, by omega, rfl, ?_, rfl, mm⟩
    rw [hle]; rfl
  · have hi : i = 4 := by simp at h; omega
    subst hi
    have hf : b ++ (four s).take 4 = sealL b := by unfold sealL; rw [hs]; rfl
    rw [hf] at mm h4
    refine c_sreg rfl ?_
    refine s1 (r_mvs h4) ?_
    refine s1 (r_ass rfl) ?_
    refine wn ?_
    refine c_ret (ret1 rfl rfl ⟨_, _, rfl, mm.chg, mm.isNew 0 rfl⟩)
end Go.Proofs.Ytgdbbaggkoillaa

