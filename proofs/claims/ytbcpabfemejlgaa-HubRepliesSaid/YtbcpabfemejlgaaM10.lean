/- The references' small functions: kithref01.Put, kithref02.Step, Sum, Seal, kithref05's, kithref06.in, May, Put: walks. -/
import Derived.Test.YtbcpabfemejlgaaM8
import Derived.Test.YtbcpabfemejlgaaM5
import Derived.Test.YtbcpabfemejlgaaM6
import Derived.Test.YtbcpabfemejlgaaM9
import Derived.Test.YtbcpabfemejlgaaM7
namespace Go.Proofs.Ytbcpabfemejlgaa
open K
set_option maxRecDepth 100000
set_option maxHeartbeats 4000000

theorem nat_tmod (k m : Nat) : ((k : Nat) : Int).tmod ((m : Nat) : Int) = ((k % m : Nat) : Int) := by rw [Int.tmod_eq_emod_of_nonneg (by omega)]; rfl
theorem nat_tdiv (k m : Nat) : ((k : Nat) : Int).tdiv ((m : Nat) : Int) = ((k / m : Nat) : Int) := by rw [Int.tdiv_eq_ediv_of_nonneg (by omega)]; rfl
theorem wdiv64 (k : Nat) (hk : k < 2 ^ 64) : IntKind.u64.wrap (((k : Nat) : Int).tdiv 128) = ((k / 128 : Nat) : Int) := by
  have h : ((k : Nat) : Int).tdiv 128 = ((k / 128 : Nat) : Int) := nat_tdiv k 128
  rw [h]; exact wu64 (by omega) (by omega)
theorem wdiv2 (k : Nat) (hk : k < 2 ^ 32) : IntKind.u32.wrap (((k : Nat) : Int).tdiv 2) = ((k / 2 : Nat) : Int) := by
  have h : ((k : Nat) : Int).tdiv 2 = ((k / 2 : Nat) : Int) := nat_tdiv k 2
  rw [h]; exact wu32 (by omega) (by omega)
theorem wdiv256 (k : Nat) (hk : k < 2 ^ 32) : IntKind.u32.wrap (((k : Nat) : Int).tdiv 256) = ((k / 256 : Nat) : Int) := by
  have h : ((k : Nat) : Int).tdiv 256 = ((k / 256 : Nat) : Int) := nat_tdiv k 256
  rw [h]; exact wu32 (by omega) (by omega)
theorem c_vput1 (m : Nat) (hm : m < 2 ^ 64) (w : World) : Cl Try.prog 24 #[.int .u64 m] w (fun v w' => ∃ a c, v = .slice a (vput m).length c ∧ Chg No w w' ∧ New w w' (own 5 1 a (vput m).length c (u8s (vput m)))) := by
  have hl := vput_len10 m hm
  refine f_enter (args := [_]) Try.func24 rfl rfl ?_
  have mm := Mem.nil No w
  refine c_sreg rfl ?_
  refine s1 (r_ass rfl) ?_
  refine wn ?_
  refine c_sreg rfl ?_
  refine so (o_bs0 mm fun a2 c2 w2 mm => ?_)
  refine s1 (r_ass rfl) ?_
  refine wn ?_
  refine c_seq ?_
  refine c_block ?_
  refine c_loop (fun k e w' => ∃ (x : Nat) (a : Option Addr) (c : Nat) (pre : List UInt8), k = x ∧ x ≤ m ∧ e 0 = .int .u64 x ∧ e 3 = .slice a pre.length c ∧ Mem w No w' [own 5 1 a pre.length c (u8s pre)] ∧ pre ++ vput x = vput m) m ?_ ?_
  · exact ⟨m, _, _, [], rfl, Nat.le_refl _, rfl, rfl, mm, rfl⟩
  clear mm
  rintro k e w' ⟨x, a, c, pre, rfl, hxm, h0, h3, mm, hp⟩
  have hpl : pre.length + (vput k).length ≤ 10 := by rw [← hp, List.length_append] at hl; exact hl
  refine c_seq ?_
  refine c_sreg rfl ?_
  refine s1 (r_mvi h0) ?_
  refine s1 (r_ge rfl rfl) ?_
  refine wn ?_
  refine c_cond rfl (fun h => (c_skip (t_n ?_))) (fun h => (c_exit (t_x (t_x (b_x (t_n ?_))))))
  · have hk : 128 ≤ k := by simp at h; omega
    have hs : vput k = UInt8.ofNat (k % 128 + 128) :: vput (k / 128) := by rw [vput, if_neg (by omega)]
    refine c_block ?_
    refine c_sreg rfl ?_
    refine s1 (r_mvs h3) ?_
    refine s1 (r_mvi h0) ?_
    refine s1 (r_rem rfl rfl (by decide) (nat_tmod k 128)) ?_
    refine s1 (r_add rfl rfl (show IntKind.u64.wrap _ = ((k % 128 + 128 : Nat) : Int) from wu64 (by omega) (by omega))) ?_
    refine s1 (r_cv rfl rfl) ?_
    refine so (o_bi1 mm rfl fun a3 c3 w3 mm => ?_)
    refine so (o_ap mm 0 rfl rfl rfl (src_own mm 1 rfl rfl) (by omega) (by unfold maxLen; omega) fun a4 c4 w4 mm => ?_)
    refine s1 (r_ass rfl) ?_
    refine wn ?_
    refine c_region rfl ?_
    refine s1 (r_mvi h0) ?_
    refine s1 (r_quo rfl rfl (by decide) (wdiv64 k (by omega))) ?_
    refine s1 (r_asi rfl) ?_
    refine wn (b_n (t_n ?_))
    have h2 := mm.pk [0] (by decide)
    have hl2 : (pre ++ [UInt8.ofNat (k % 128 + 128)]).length = pre.length + 1 := by simp
    rw [u8_any] at h2
    have h3 := h2.cst1 (n' := (pre ++ [UInt8.ofNat (k % 128 + 128)]).length) (cs' := u8s (pre ++ [UInt8.ofNat (k % 128 + 128)])) hl2.symm (u8s_append pre [UInt8.ofNat (k % 128 + 128)]).symm
    refine ⟨k / 128, by omega, k / 128, _, _, pre ++ [UInt8.ofNat (k % 128 + 128)], rfl, by omega, rfl, ?_, h3, ?_⟩
    · rw [hl2]; rfl
    · rw [List.append_assoc, ← hp, hs]; rfl
  · have hk : k < 128 := by simp at h; omega
    have hs : vput k = [UInt8.ofNat k] := by rw [vput, if_pos hk]
    rw [hs, List.length_singleton] at hpl
    refine c_sreg rfl ?_
    refine s1 (r_mvs h3) ?_
    refine s1 (r_mvi h0) ?_
    refine s1 (r_cv rfl rfl) ?_
    refine so (o_bi1 mm rfl fun a5 c5 w5 mm => ?_)
    refine so (o_ap mm 0 rfl rfl rfl (src_own mm 1 rfl rfl) (by omega) (by unfold maxLen; omega) fun a6 c6 w6 mm => ?_)
    refine s1 (r_ass rfl) ?_
    refine wn ?_
    have h2 := mm.pk [0] (by decide)
    rw [u8_any] at h2
    have hz : vput m = pre ++ [UInt8.ofNat k] := by rw [← hp, hs]
    have hl2 : (pre ++ [UInt8.ofNat k]).length = pre.length + 1 := by simp
    have h3 := h2.cst1 (n' := (pre ++ [UInt8.ofNat k]).length) (cs' := u8s (pre ++ [UInt8.ofNat k])) hl2.symm (u8s_append pre [UInt8.ofNat k]).symm
    rw [hz]
    refine c_ret (ret1 rfl rfl ⟨_, _, ?_, mm.chg, h3.isNew 0 rfl⟩)
    rw [hl2]; rfl

theorem lsb_mod (x : BitVec 32) : x.getLsbD 0 = decide (x.toNat % 2 = 1) := by
  rw [BitVec.getLsbD]
  exact Nat.testBit_zero x.toNat
theorem shr1_div (x : BitVec 32) : ((x >>> 1).toNat : Int) = ((x.toNat / 2 : Nat) : Int) := by rw [BitVec.toNat_ushiftRight, Nat.shiftRight_eq_div_pow]
theorem c_step2 (r : BitVec 32) (c : UInt8) (w : World) : Cl Try.prog 69 #[.int .u32 ((r.toNat : Nat) : Int), u8 c] w (fun v w' => v = .int .u32 (((crcStep r c).toNat : Nat) : Int) ∧ Chg No w w') := by
  refine f_enter (args := [_, _]) Try.func69 rfl rfl ?_
  have mm := Mem.nil No w
  refine c_sreg rfl ?_
  refine s1 (r_asi rfl) ?_
  refine wn ?_
  refine c_sreg rfl ?_
  refine s1 (r_mvi rfl) ?_
  refine s1 (r_mvi rfl) ?_
  refine s1 (r_cv rfl (bu32 c)) ?_
  refine s1 (r_bxor rfl rfl (bx32 _ _)) ?_
  refine s1 (r_asi rfl) ?_
  refine wn ?_
  refine c_seq ?_
  refine c_sreg rfl ?_
  refine s1 (r_asi rfl) ?_
  refine wn ?_
  refine c_block ?_
  refine c_loop (fun k e w' => ∃ i, k + i = 8 ∧ e 0 = .int .u32 (((crcIt i (r ^^^ c.toBitVec.setWidth 32)).toNat : Nat) : Int) ∧ e 5 = .int .i64 (i : Nat) ∧ Mem w No w' []) 8 ?_ ?_
  · exact ⟨0, rfl, rfl, rfl, mm⟩
  clear mm
  rintro k e w9 ⟨i, hki, h0, h5, mm⟩
  refine c_seq ?_
  refine c_sreg rfl ?_
  refine s1 (r_mvi h5) ?_
  refine s1 (r_lt rfl rfl) ?_
  refine wn ?_
  refine c_cond rfl (fun h => (c_skip (t_n ?_))) (fun h => (c_exit (t_x (t_x (b_x (t_n ?_))))))
  · have hi : i < 8 := by simp at h; omega
    clear h
    have hx : crcIt (i + 1) (r ^^^ c.toBitVec.setWidth 32) = crcM (crcIt i (r ^^^ c.toBitVec.setWidth 32)) := rfl
    generalize hz : crcIt (i + 1) (r ^^^ c.toBitVec.setWidth 32) = z at hx
    generalize crcIt i (r ^^^ c.toBitVec.setWidth 32) = x at *
    have hlt := x.isLt
    refine c_seq ?_
    refine c_block ?_
    refine c_sreg rfl ?_
    refine s1 (r_mvi h0) ?_
    refine s1 (r_rem rfl rfl (by decide) (nat_tmod x.toNat 2)) ?_
    refine s1 (r_asi rfl) ?_
    refine wn ?_
    refine c_sreg rfl ?_
    refine s1 (r_mvi h0) ?_
    refine s1 (r_quo rfl rfl (by decide) ((wdiv2 x.toNat (by omega)).trans (shr1_div x).symm)) ?_
    refine s1 (r_asi rfl) ?_
    refine wn ?_
    refine c_sreg rfl ?_
    refine s1 (r_mvi rfl) ?_
    refine s1 (r_eq rfl rfl) ?_
    refine wn ?_
    refine c_mid1 (fun e w' => e 0 = .int .u32 ((z.toNat : Nat) : Int) ∧ e 5 = .int .i64 (i : Nat) ∧ Mem w No w' []) ?_ ?_
    · refine c_cond rfl (fun h => ?_) (fun h => (c_skip (t_n ?_)))
      · have hb : x.getLsbD 0 = true := by rw [lsb_mod]; simp at h ⊢; omega
        refine c_region rfl ?_
        refine s1 (r_mvi rfl) ?_
        refine s1 (r_bxor rfl rfl (bx32 _ poly)) ?_
        refine s1 (r_asi rfl) ?_
        refine wn (t_n ?_)
        refine ⟨?_, h5, mm⟩
        rw [hx, crcM_if, hb]; rfl
      · have hb : x.getLsbD 0 = false := by rw [lsb_mod]; simp at h ⊢; omega
        refine ⟨?_, h5, mm⟩
        rw [hx, crcM_if, hb]; rfl
    clear mm h0 h5
    rintro e w9 ⟨h0, h5, mm⟩
    refine c_region rfl ?_
    refine s1 (r_mvi h5) ?_
    refine s1 (r_add rfl rfl (wi (by omega) (by omega))) ?_
    refine s1 (r_asi rfl) ?_
    refine wn (t_n ?_)
    exact ⟨k - 1, by omega, i + 1, by omega, by rw [hz]; exact h0, rfl, mm⟩
  · have hi : i = 8 := by simp at h; omega
    subst hi
    refine c_sreg rfl ?_
    refine s1 (r_mvi h0) ?_
    refine s1 (r_asi rfl) ?_
    refine wn ?_
    exact c_ret (ret1 rfl rfl ⟨rfl, mm.chg⟩)

theorem sub_ones (x : BitVec 32) : IntKind.u32.wrap (4294967295 - ((x.toNat : Nat) : Int)) = (((x ^^^ BitVec.allOnes 32).toNat : Nat) : Int) := by
  have h := x.isLt
  rw [BitVec.xor_allOnes, BitVec.toNat_not, wu32 (by omega) (by omega)]
  omega
theorem c_sum2 (b : List UInt8) (hb : b.length ≤ 4611686018427387904) (v : Value) (w : World) (hs : Sl w v b) : Cl Try.prog 46 #[v] w (fun v w' => v = .int .u32 (((crcSum b).toNat : Nat) : Int) ∧ Chg No w w') := by
  obtain ⟨a, c, rfl, hc, H⟩ := hs
  refine f_enter (args := [_]) Try.func46 rfl rfl ?_
  have mm := Mem.nil No w
  refine c_sreg rfl ?_
  refine s1 (r_asi rfl) ?_
  refine wn ?_
  refine c_sreg rfl ?_
  refine s1 (r_asi rfl) ?_
  refine wn ?_
  refine c_seq ?_
  refine c_sreg rfl ?_
  refine s1 (r_asi rfl) ?_
  refine wn ?_
  refine c_block ?_
  refine c_loop (fun k e w' => ∃ i, k + i = b.length ∧ e 0 = .slice a b.length c ∧ e 3 = .int .u32 (((crcReg (BitVec.allOnes 32) (b.take i)).toNat : Nat) : Int) ∧ e 4 = .int .i64 (i : Nat) ∧ Mem w No w' []) b.length ?_ ?_
  · exact ⟨0, rfl, rfl, rfl, rfl, mm⟩
  clear mm
  rintro k e w9 ⟨i, hki, h0, h3, h4, mm⟩
  refine c_seq ?_
  refine c_sreg rfl ?_
  refine s1 (r_mvi h4) ?_
  refine s1 (r_mvs h0) ?_
  refine s1 (r_len rfl) ?_
  refine s1 (r_lt rfl rfl) ?_
  refine wn ?_
  refine c_cond rfl (fun h => (c_skip (t_n ?_))) (fun h => (c_exit (t_x (t_x (b_x (t_n ?_))))))
  · have hi : i < b.length := by simp at h; omega
    clear h
    refine c_seq ?_
    refine c_block ?_
    refine c_region rfl ?_
    refine s1 (r_mvi h3) ?_
    refine s1 (r_mvs h0) ?_
    refine s1 (r_mvi h4) ?_
    refine s1 (r_ix rfl rfl (by omega) (by omega) (H.some (nth_u8s b i hi))) ?_
    refine s1 (r_ldc rfl (mm.ro H) (nth_u8s b i hi)) ?_
    refine so (o_c2 rfl rfl (c_step2 _ _ _) ?_)
    rintro _ w2 ⟨rfl, hc⟩
    have mm := mm.frame hc
    refine s1 (r_asi rfl) ?_
    refine wn (b_n (t_n ?_))
    refine c_region rfl ?_
    refine s1 (r_mvi h4) ?_
    refine s1 (r_add rfl rfl (wi (by omega) (by omega))) ?_
    refine s1 (r_asi rfl) ?_
    refine wn (t_n ?_)
    refine ⟨k - 1, by omega, i + 1, by omega, h0, ?_, rfl, mm⟩
    rw [crcReg_snoc _ _ _ hi]
    exact h3 ▸ rfl
  · have hi : i = b.length := by simp at h; omega
    subst hi
    rw [List.take_length] at h3
    refine c_sreg rfl ?_
    refine s1 (r_mvi h3) ?_
    refine s1 (r_sub rfl rfl (sub_ones _)) ?_
    refine s1 (r_asi rfl) ?_
    refine wn ?_
    exact c_ret (ret1 rfl rfl ⟨rfl, mm.chg⟩)

theorem four_snoc (s : BitVec 32) (i : Nat) (h : i < 4) : (four s).take (i + 1) = (four s).take i ++ [UInt8.ofNat (s.toNat / 2 ^ (8 * i) % 256)] := by
  have h1 : ∀ n : Nat, UInt8.ofNat (n % 256) = UInt8.ofNat n := fun n => by apply UInt8.toNat_inj.1; simp
  rw [h1]
  match i, h with
  | 0, _ => simp [four] | 1, _ => rfl | 2, _ => rfl | 3, _ => rfl
theorem c_seal2 (b : List UInt8) (hb : b.length ≤ 1000000000000) (v : Value) (w : World) (hs : Sl w v b) : Cl Try.prog 26 #[v] w (fun v w' => ∃ a c, v = .slice a (sealL b).length c ∧ Chg No w w' ∧ New w w' (own 5 1 a (sealL b).length c (u8s (sealL b)))) := by
  obtain ⟨a, c, rfl, hcc, H⟩ := hs
  refine f_enter (args := [_]) Try.func26 rfl rfl ?_
  have mm := Mem.nil No w
  refine c_sreg rfl ?_
  refine s1 (r_ass rfl) ?_
  refine wn ?_
  refine c_sreg rfl ?_
  refine s1 (r_mvs rfl) ?_
  refine so (o_c1 rfl (c_sum2 b (by omega) _ _ ⟨a, c, rfl, hcc, mm.ro H⟩) ?_)
  rintro _ w2 ⟨rfl, hc⟩
  have mm := mm.frame hc
  refine s1 (r_asi rfl) ?_
  refine wn ?_
  generalize hs : crcSum b = s
  refine c_sreg rfl ?_
  refine so (o_bs0 mm fun a3 c3 w3 mm => ?_)
  refine s1 (r_mvs rfl) ?_
  refine so (o_ap mm 0 rfl rfl rfl (src_cells (n := b.length) (mm.ro H) (by rw [u8s_length]; omega) (ones_u8s _) (by decide)) (by omega) (by unfold maxLen; omega) fun a4 c4 w4 mm => ?_)
  refine s1 (r_ass rfl) ?_
  refine wn ?_
  have mm := (mm.pk [0] (by decide)).cst1 (n' := (b ++ (four s).take 0).length) (cs' := u8s (b ++ (four s).take 0)) (by simp) (by simp [u8s])
  refine c_seq ?_
  refine c_sreg rfl ?_
  refine s1 (r_asi rfl) ?_
  refine wn ?_
  refine c_block ?_
  refine c_loop (fun k e w' => ∃ i a' c', k + i = 4 ∧ e 3 = .int .u32 ((s.toNat / 2 ^ (8 * i) : Nat) : Int) ∧ e 4 = .slice a' (b ++ (four s).take i).length c' ∧ e 5 = .int .i64 (i : Nat) ∧ Mem w No w' [own 5 1 a' (b ++ (four s).take i).length c' (u8s (b ++ (four s).take i))]) 4 ?_ ?_
  · refine ⟨0, _, _, rfl, ?_, ?_, rfl, mm⟩
    · show Value.int .u32 ((s.toNat : Nat) : Int) = _
      simp
    · show Value.slice _ (0 + b.length) _ = _
      simp
  clear mm
  rintro k e w9 ⟨i, a', c', hki, h3, h4, h5, mm⟩
  have hl : (b ++ (four s).take i).length ≤ b.length + 4 := by rw [List.length_append, List.length_take, four_length]; omega
  refine c_seq ?_
  refine c_sreg rfl ?_
  refine s1 (r_mvi h5) ?_
  refine s1 (r_lt rfl rfl) ?_
  refine wn ?_
  refine c_cond rfl (fun h => (c_skip (t_n ?_))) (fun h => (c_exit (t_x (t_x (b_x (t_n ?_))))))
  · have hi : i < 4 := by simp at h; omega
    clear h
    have hlt : s.toNat / 2 ^ (8 * i) < 4294967296 := Nat.lt_of_le_of_lt (Nat.div_le_self _ _) s.isLt
    refine c_seq ?_
    refine c_block ?_
    refine c_sreg rfl ?_
    refine s1 (r_mvs h4) ?_
    refine s1 (r_mvi h3) ?_
    refine s1 (r_rem rfl rfl (by decide) (nat_tmod _ 256)) ?_
    refine s1 (r_cv rfl rfl) ?_
    refine so (o_bi1 mm rfl fun a5 c5 w5 mm => ?_)
    refine so (o_ap mm 0 rfl rfl rfl (src_own mm 1 rfl rfl) (by omega) (by unfold maxLen; omega) fun a6 c6 w6 mm => ?_)
    refine s1 (r_ass rfl) ?_
    refine wn ?_
    rw [u8_any] at mm
    have hle : (b ++ (four s).take (i + 1)).length = (b ++ (four s).take i).length + 1 := by rw [four_snoc s i hi, ← List.append_assoc, List.length_append]; rfl
    have mm := (mm.pk [0] (by decide)).cst1 (n' := (b ++ (four s).take (i + 1)).length) (cs' := u8s (b ++ (four s).take (i + 1))) hle.symm (by rw [four_snoc s i hi, ← List.append_assoc, u8s_append (_ ++ _)]; rfl)
    refine c_region rfl ?_
    refine s1 (r_mvi h3) ?_
    refine s1 (r_quo rfl rfl (by decide) ((wdiv256 _ (by omega)).trans (congrArg Nat.cast (show s.toNat / 2 ^ (8 * i) / 256 = s.toNat / 2 ^ (8 * (i + 1)) from by rw [Nat.div_div_eq_div_mul, show 2 ^ (8 * i) * 256 = 2 ^ (8 * (i + 1)) from by rw [Nat.mul_add, Nat.pow_add]])))) ?_
    refine s1 (r_asi rfl) ?_
    refine wn (b_n (t_n ?_))
    refine c_region rfl ?_
    refine s1 (r_mvi h5) ?_
    refine s1 (r_add rfl rfl (wi (by omega) (by omega))) ?_
    refine s1 (r_asi rfl) ?_
    refine wn (t_n ?_)
    refine ⟨k - 1, by omega, i + 1, _, _, by omega, rfl, ?_, rfl, mm⟩
    rw [hle]; rfl
  · have hi : i = 4 := by simp at h; omega
    subst hi
    have hf : b ++ (four s).take 4 = sealL b := by unfold sealL; rw [hs]; rfl
    rw [hf] at mm h4
    refine c_sreg rfl ?_
    refine s1 (r_mvs h4) ?_
    refine s1 (r_ass rfl) ?_
    refine wn ?_
    refine c_ret (ret1 rfl rfl ⟨_, _, rfl, mm.chg, mm.isNew 0 rfl⟩)
end Go.Proofs.Ytbcpabfemejlgaa
/- kithref01.Take: the walk. -/
namespace Go.Proofs.Ytbcpabfemejlgaa
open K
set_option maxRecDepth 100000
set_option maxHeartbeats 4000000

theorem vval_drop (l : List UInt8) (j : Nat) (h : j < l.length) : vval (l.drop j) = vval (l.drop (j + 1)) * 128 + (l.getD j 0).toNat % 128 := by
  have e : l.drop j = l.getD j 0 :: l.drop (j + 1) := drop_get l j h
  rw [e]; rfl
theorem mul128 (n : Nat) : IntKind.u64.wrap (((n % 2 ^ 64 : Nat) : Int) * 128) = ((n * 128 % 2 ^ 64 : Nat) : Int) := by
  have : IntKind.u64.wrap (((n % 2 ^ 64 : Nat) : Int) * 128) = (((n % 2 ^ 64 : Nat) : Int) * 128) % 18446744073709551616 := rfl
  rw [this]; omega
theorem add128 (n d : Nat) (hd : d < 128) : IntKind.u64.wrap (((n * 128 % 2 ^ 64 : Nat) : Int) + ((d : Nat) : Int)) = (((n * 128 + d) % 2 ^ 64 : Nat) : Int) := by
  have : IntKind.u64.wrap (((n * 128 % 2 ^ 64 : Nat) : Int) + ((d : Nat) : Int)) = (((n * 128 % 2 ^ 64 : Nat) : Int) + ((d : Nat) : Int)) % 18446744073709551616 := rfl
  rw [this]; omega
theorem getD_take (b : List UInt8) (i j : Nat) (h : j < i) : (b.take i).getD j 0 = b.getD j 0 := by
  simp only [List.getD]
  rw [List.getElem?_take, if_pos h]
end Go.Proofs.Ytbcpabfemejlgaa
/- Frames, plain: which may be, which bytes they are, what any bytes are. -/
namespace Go.Proofs.Ytbcpabfemejlgaa
open K

/-- What a kind's frame carries: 1 events, 2 a number, 3 a clock. -/
def fHas (k : Int) : Int := if k = 1 then 1 else if k = 2 then 2 else if k = 3 then 3 else if k = 4 then 1 else if k = 5 then 3 else 0
def frMay (x : Rec) : Bool :=
  decide (fHas x.kind ≠ 0) && decide (0 ≤ x.r) && decide (x.r < 5) && (decide (fHas x.kind = 1) || decide (x.es.length = 0)) && (decide (fHas x.kind = 2) || decide (x.upto = 0)) && (decide (fHas x.kind = 3) || decide (x.c = clk0)) &&
  (decide (x.kind ≠ 1) || decide (x.es.length ≠ 0)) && decide (x.es.length ≤ 20) && inEv x.upto && x.c.all inEv && x.es.all (fun y => decide (evMay y = 0) && (decide (x.kind ≠ 1) || decide (y.r = x.r)))
def bodyF (x : Rec) : List UInt8 :=
  [UInt8.ofNat x.kind.toNat, UInt8.ofNat x.r.toNat] ++ (if fHas x.kind = 2 then vput x.upto.toNat else if fHas x.kind = 3 then clkB x.c 5 else UInt8.ofNat x.es.length :: evsB x.es)
def putF (x : Rec) : List UInt8 := sealL (vput (bodyF x).length ++ bodyF x)
def frPut (x : Rec) : List UInt8 := if frMay x then putF x else []

structure FrOk (x : Rec) : Prop where
  is : fHas x.kind ≠ 0
  r0 : 0 ≤ x.r
  r5 : x.r < 5
  h1 : fHas x.kind = 1 ∨ x.es = []
  h2 : fHas x.kind = 2 ∨ x.upto = 0
  h3 : fHas x.kind = 3 ∨ x.c = clk0
  push : x.kind ≠ 1 ∨ x.es ≠ []
  most : x.es.length ≤ 20
  u0 : 0 ≤ x.upto
  u1 : x.upto ≤ 1048576
  c : ∀ i, i < 5 → 0 ≤ x.c.get i ∧ x.c.get i ≤ 1048576
  es : ∀ y ∈ x.es, evMay y = 0
  own : x.kind = 1 → ∀ y ∈ x.es, y.r = x.r
theorem frMay_ok {x : Rec} (h : frMay x = true) : FrOk x := by
  simp only [frMay, Bool.and_eq_true, Bool.or_eq_true, decide_eq_true_eq] at h
  obtain ⟨⟨⟨⟨⟨⟨⟨⟨⟨⟨h1, h2⟩, h3⟩, h4⟩, h5⟩, h6⟩, h7⟩, h8⟩, h9⟩, h10⟩, h11⟩ := h
  simp only [inEv, Bool.and_eq_true, decide_eq_true_eq] at h9
  have h12 := fun y (hy : y ∈ x.es) => List.all_eq_true.1 h11 y hy
  simp only [Bool.and_eq_true, Bool.or_eq_true, decide_eq_true_eq] at h12
  refine ⟨h1, h2, h3, h4.imp id List.eq_nil_of_length_eq_zero, h5, h6, h7.imp id (fun h he => h (by rw [he]; rfl)), h8, h9.1, h9.2, fun i hi => ?_, fun y hy => (h12 y hy).1, fun hk y hy => ((h12 y hy).2).resolve_left (fun h => h hk)⟩
  have := (Clk.all_iff _ _).1 h10 i hi
  simpa [inEv] using this
theorem frMay_of {x : Rec} (h : FrOk x) : frMay x = true := by
  simp only [frMay, Bool.and_eq_true, Bool.or_eq_true, decide_eq_true_eq]
  refine ⟨⟨⟨⟨⟨⟨⟨⟨⟨⟨h.is, h.r0⟩, h.r5⟩, h.h1.imp id (fun e => by rw [e]; rfl)⟩, h.h2⟩, h.h3⟩, h.push.imp id (fun he hl => he (List.eq_nil_of_length_eq_zero hl))⟩, h.most⟩, ?_⟩, ?_⟩, ?_⟩
  · simp only [inEv, Bool.and_eq_true, decide_eq_true_eq]; exact ⟨h.u0, h.u1⟩
  · rw [Clk.all_iff]; intro i hi; have := h.c i hi; simpa [inEv] using this
  · rw [List.all_eq_true]
    intro y hy
    simp only [Bool.and_eq_true, Bool.or_eq_true, decide_eq_true_eq]
    refine ⟨h.es y hy, ?_⟩
    by_cases hk : x.kind = 1
    · exact .inr (h.own hk y hy)
    · exact .inl hk
theorem fHas_in {k : Int} (h : fHas k ≠ 0) : 1 ≤ k ∧ k ≤ 5 := by
  unfold fHas at h
  split at h
  · omega
  · split at h
    · omega
    · split at h
      · omega
      · split at h
        · omega
        · split at h
          · omega
          · exact absurd rfl h
theorem fHas_123 (k : Int) : fHas k = 0 ∨ fHas k = 1 ∨ fHas k = 2 ∨ fHas k = 3 := by
  unfold fHas
  split
  · exact .inr (.inl rfl)
  · split
    · exact .inr (.inr (.inl rfl))
    · split
      · exact .inr (.inr (.inr rfl))
      · split
        · exact .inr (.inl rfl)
        · split
          · exact .inr (.inr (.inr rfl))
          · exact .inl rfl
/-- The code's questions. -/
def mayFA (x : Rec) : Bool := (decide (fHas x.kind = 0) || decide (x.r < 0) || decide (5 ≤ x.r) || decide (fHas x.kind ≠ 1) && decide (0 < ((x.es.length : Nat) : Int)) || decide (fHas x.kind ≠ 2) && decide (x.upto ≠ 0) || decide (fHas x.kind ≠ 3) && !decide (x.c = clk0))
def mayFB (x : Rec) : Bool := (decide (x.kind = 1) && decide (((x.es.length : Nat) : Int) = 0) || decide (20 < ((x.es.length : Nat) : Int)) || !inEv x.upto)
theorem frMay_abc (x : Rec) : frMay x = (!mayFA x && !mayFB x && x.c.all inEv && x.es.all (fun y => decide (evMay y = 0) && (decide (x.kind ≠ 1) || decide (y.r = x.r)))) := by
  have e1 : decide (0 ≤ x.r) = !decide (x.r < 0) := by rw [← decide_not]; exact decide_eq_decide.2 (by omega)
  have e2 : decide (x.r < 5) = !decide (5 ≤ x.r) := by rw [← decide_not]; exact decide_eq_decide.2 (by omega)
  have e3 : decide (x.upto = 0) = !decide (x.upto ≠ 0) := by rw [← decide_not]; exact decide_eq_decide.2 (by omega)
  have e4 : decide (x.es.length = 0) = !decide (0 < ((x.es.length : Nat) : Int)) := by rw [← decide_not]; exact decide_eq_decide.2 (by omega)
  have e5 : decide (x.kind ≠ 1) = !decide (x.kind = 1) := by rw [← decide_not]
  have e6 : decide (x.es.length ≠ 0) = !decide (((x.es.length : Nat) : Int) = 0) := by rw [← decide_not]; exact decide_eq_decide.2 (by omega)
  have e7 : decide (x.es.length ≤ 20) = !decide (20 < ((x.es.length : Nat) : Int)) := by rw [← decide_not]; exact decide_eq_decide.2 (by omega)
  have e8 : decide (fHas x.kind ≠ 0) = !decide (fHas x.kind = 0) := by rw [← decide_not]
  have e9 : ∀ n : Int, decide (fHas x.kind = n) = !decide (fHas x.kind ≠ n) := fun n => by rw [← decide_not]; exact decide_eq_decide.2 (by omega)
  unfold frMay mayFA mayFB
  rw [e1, e2, e3, e4, e6, e7, e8, e9 1, e9 2, e9 3]
  generalize (x.es.all fun y => decide (evMay y = 0) && (decide (x.kind ≠ 1) || decide (y.r = x.r))) = b0
  rw [e5]
  generalize decide (fHas x.kind = 0) = b1
  generalize decide (fHas x.kind ≠ 1) = b2
  generalize decide (fHas x.kind ≠ 2) = b3
  generalize decide (fHas x.kind ≠ 3) = b4
  generalize decide (x.r < 0) = b5
  generalize decide (5 ≤ x.r) = b6
  generalize inEv x.upto = b7
  generalize decide (x.upto ≠ 0) = b8
  generalize decide (x.c = clk0) = b9
  generalize decide (0 < ((x.es.length : Nat) : Int)) = b10
  generalize decide (x.kind = 1) = b11
  generalize decide (((x.es.length : Nat) : Int) = 0) = b12
  generalize decide (20 < ((x.es.length : Nat) : Int)) = b13
  simp only [Bool.not_or, Bool.not_and, Bool.not_not, Bool.and_assoc]
end Go.Proofs.Ytbcpabfemejlgaa
/- kithref05's functions, kithref06.in, May, Put: walks. -/
namespace Go.Proofs.Ytbcpabfemejlgaa
open K
set_option maxRecDepth 100000
set_option maxHeartbeats 4000000

theorem c_label5 (n : Int) (w : World) : Cl Try.prog 92 #[.int .i64 n] w (fun v w' => v = .int .i64 (tLabel n) ∧ Chg No w w') := by
  refine f_enter (args := [_]) Try.func92 rfl rfl ?_
  have mm := Mem.nil No w
  refine c_sreg rfl ?_
  refine s1 (r_asi rfl) ?_
  refine wn ?_
  refine c_seq ?_
  refine c_sreg rfl ?_
  refine s1 (r_mvi rfl) ?_
  refine s1 (r_eq rfl rfl) ?_
  refine s1 (r_mvb rfl) ?_
  refine sF rfl rfl (fun h => r_mvi rfl) ?_
  refine sF rfl rfl (fun h => r_eq (sel_t h :) rfl) ?_
  refine s1 (r_or rfl rfl) ?_
  refine wn ?_
  refine c_cond rfl (fun h => ?_) (fun h => (c_skip (t_n ?_)))
  · refine c_sreg rfl ?_
    refine s1 (r_asi rfl) ?_
    refine wn ?_
    refine c_ret (ret1 rfl rfl ⟨congrArg (Value.int .i64) ?_, mm.chg⟩)
    exact (if_pos (by simp at h; omega)).symm
  · refine c_sreg rfl ?_
    refine s1 (r_asi rfl) ?_
    refine wn ?_
    refine c_ret (ret1 rfl rfl ⟨congrArg (Value.int .i64) ?_, mm.chg⟩)
    exact (if_neg (by simp at h; omega)).symm
theorem c_value5 (s : List UInt8) (w : World) : Cl Try.prog 93 #[str s] w (fun v w' => v = .int .i64 (tValue s) ∧ Chg No w w') := by
  refine f_enter (args := [_]) Try.func93 rfl rfl ?_
  have mm := Mem.nil No w
  refine c_sreg rfl ?_
  refine s1 (r_asi rfl) ?_
  refine wn ?_
  refine c_seq ?_
  refine c_sreg rfl ?_
  refine s1 (r_mvt rfl) ?_
  refine s1 (r_slen rfl) ?_
  refine s1 (r_lt rfl rfl) ?_
  refine s1 (r_mvb rfl) ?_
  refine sF rfl rfl (fun h => r_mvt rfl) ?_
  refine sF rfl rfl (fun h => r_slen (sel_t h :)) ?_
  refine sF rfl rfl (fun h => r_gt (sel_t h :) rfl) ?_
  refine s1 (r_or rfl rfl) ?_
  refine wn ?_
  refine c_cond rfl (fun h => ?_) (fun h => (c_skip (t_n ?_)))
  · refine c_sreg rfl ?_
    refine s1 (r_asi rfl) ?_
    refine wn ?_
    refine c_ret (ret1 rfl rfl ⟨congrArg (Value.int .i64) ?_, mm.chg⟩)
    exact (if_neg (by simp at h; omega)).symm
  · refine c_sreg rfl ?_
    refine s1 (r_asi rfl) ?_
    refine wn ?_
    refine c_ret (ret1 rfl rfl ⟨congrArg (Value.int .i64) ?_, mm.chg⟩)
    exact (if_pos (by simp at h; omega)).symm
theorem c_key5 (s : List UInt8) (w : World) : Cl Try.prog 91 #[str s] w (fun v w' => v = .int .i64 (tKey s) ∧ Chg No w w') := by
  refine f_enter (args := [_]) Try.func91 rfl rfl ?_
  have mm := Mem.nil No w
  refine c_sreg rfl ?_
  refine s1 (r_asi rfl) ?_
  refine wn ?_
  refine c_seq ?_
  refine c_sreg rfl ?_
  refine s1 (r_mvt rfl) ?_
  refine s1 (r_slen rfl) ?_
  refine s1 (r_lt rfl rfl) ?_
  refine s1 (r_mvb rfl) ?_
  refine sF rfl rfl (fun h => r_mvt rfl) ?_
  refine sF rfl rfl (fun h => r_slen (sel_t h :)) ?_
  refine sF rfl rfl (fun h => r_gt (sel_t h :) rfl) ?_
  refine s1 (r_or rfl rfl) ?_
  refine wn ?_
  refine c_cond rfl (fun h => ?_) (fun h => (c_skip (t_n ?_)))
  · refine c_sreg rfl ?_
    refine s1 (r_asi rfl) ?_
    refine wn ?_
    refine c_ret (ret1 rfl rfl ⟨congrArg (Value.int .i64) ?_, mm.chg⟩)
    refine (if_neg ?_).symm
    simp [keyOk]
    simp at h
    omega
  have hl : 1 ≤ s.length ∧ s.length ≤ 8 := by simp at h; omega
  clear h
  refine c_seq ?_
  refine c_sreg rfl ?_
  refine s1 (r_asi rfl) ?_
  refine wn ?_
  refine c_block ?_
  refine c_loop (fun k e w' => ∃ i, k + i = s.length ∧ e 0 = str s ∧ e 3 = .int .i64 (i : Nat) ∧ Mem w No w' [] ∧ (s.take i).all okByte = true) s.length ?_ ?_
  · exact ⟨0, rfl, rfl, rfl, mm, rfl⟩
  clear mm
  rintro k e w9 ⟨i, hki, h0, h3, mm, hall⟩
  refine c_seq ?_
  refine c_sreg rfl ?_
  refine s1 (r_mvi h3) ?_
  refine s1 (r_mvt h0) ?_
  refine s1 (r_slen rfl) ?_
  refine s1 (r_lt rfl rfl) ?_
  refine wn ?_
  refine c_cond rfl (fun h => (c_skip (t_n ?_))) (fun h => (c_exit (t_x (t_x (b_x (t_n ?_))))))
  · have hi : i < s.length := by simp at h; omega
    clear h
    have hg : s.getD i 0 = s[i] := by simp [List.getD, hi]
    refine c_seq ?_
    refine c_block ?_
    refine c_sreg rfl ?_
    refine s1 (r_mvt h0) ?_
    refine s1 (r_mvi h3) ?_
    refine s1 (r_ixs rfl rfl (by omega) (by omega)) ?_
    refine s1 (r_lt rfl rfl) ?_
    refine s1 (r_mvb rfl) ?_
    refine sF rfl rfl (fun h => r_mvt h0) ?_
    refine sF rfl rfl (fun h => r_mvi h3) ?_
    refine sF rfl rfl (fun h => r_ixs (sel_t h :) (sel_t h :) (by omega) (by omega)) ?_
    refine sF rfl rfl (fun h => r_gt (sel_t h :) rfl) ?_
    refine s1 (r_or rfl rfl) ?_
    refine wn ?_
    refine c_cond rfl (fun h => ?_) (fun h => (c_skip (b_n (t_n ?_))))
    · refine c_sreg rfl ?_
      refine s1 (r_asi rfl) ?_
      refine wn ?_
      refine c_ret (ret1 rfl rfl ⟨congrArg (Value.int .i64) ?_, mm.chg⟩)
      refine (if_neg ?_).symm
      intro hk
      simp only [keyOk, Bool.and_eq_true, List.all_eq_true] at hk
      have hb := hk.2 s[i] (List.getElem_mem hi)
      simp only [okByte, Bool.and_eq_true, decide_eq_true_eq] at hb
      simp only [Int.toNat_natCast, hg] at h
      simp at h
      omega
    refine c_region rfl ?_
    refine s1 (r_mvi h3) ?_
    refine s1 (r_add rfl rfl (wi (by omega) (by omega))) ?_
    refine s1 (r_asi rfl) ?_
    refine wn (t_n ?_)
    refine ⟨k - 1, by omega, i + 1, by omega, h0, rfl, mm, ?_⟩
    rw [List.take_succ_eq_append_getElem hi, List.all_append, hall]
    simp only [Int.toNat_natCast, hg] at h
    simp at h
    simp only [List.all_cons, List.all_nil, okByte, Bool.true_and, Bool.and_true, Bool.and_eq_true, decide_eq_true_eq]
    omega
  · have hi : i = s.length := by simp at h; omega
    subst hi
    refine c_sreg rfl ?_
    refine s1 (r_asi rfl) ?_
    refine wn ?_
    refine c_ret (ret1 rfl rfl ⟨congrArg (Value.int .i64) ?_, mm.chg⟩)
    rw [List.take_length] at hall
    exact (if_pos (by simp [keyOk, hl, hall])).symm
theorem tKey_10 {s : List UInt8} (h : tKey s ≠ 0) : tKey s = 10 := by
  unfold tKey at *
  split at h
  · exact absurd rfl h
  · exact if_neg (by assumption)
theorem tLabel_11 {n : Int} (h : tLabel n ≠ 0) : tLabel n = 11 := by
  unfold tLabel at *
  split at h
  · exact absurd rfl h
  · exact if_neg (by assumption)
theorem c_edit5 (x : Ed) (w : World) : Cl Try.prog 67 #[.agg (edC x).toArray] w (fun v w' => v = .int .i64 (tEdit x) ∧ Chg No w w') := by
  refine f_enter (args := [_]) Try.func67 rfl rfl ?_
  have mm := Mem.nil No w
  refine c_sreg rfl ?_
  refine so (o_bxa mm rfl fun b2 w2 mm => ?_)
  refine s1 (r_asi rfl) ?_
  refine wn ?_
  refine c_seq ?_
  refine c_sreg rfl ?_
  refine s1 (r_fa rfl) ?_
  refine s1 (r_ld rfl (mm.b 0 rfl) rfl) ?_
  refine s1 (r_lt rfl rfl) ?_
  refine s1 (r_mvb rfl) ?_
  refine sF rfl rfl (fun h => r_fa rfl) ?_
  refine sF rfl rfl (fun h => r_ld (sel_t h :) (mm.b 0 rfl) rfl) ?_
  refine sF rfl rfl (fun h => r_gt (sel_t h :) rfl) ?_
  refine s1 (r_or rfl rfl) ?_
  refine wn ?_
  refine c_cond rfl (fun h => ?_) (fun h => (c_skip (t_n ?_)))
  · refine c_sreg rfl ?_
    refine s1 (r_asi rfl) ?_
    refine wn ?_
    refine c_ret (ret1 rfl rfl ⟨congrArg (Value.int .i64) ?_, mm.chg⟩)
    simp at h
    exact (if_pos (by omega)).symm
  have h1 : ¬ (x.kind < 1 ∨ 5 < x.kind) := by simp at h; omega
  clear h
  refine c_seq ?_
  refine c_sreg rfl ?_
  refine s1 (r_fa rfl) ?_
  refine s1 (r_ld rfl (mm.b 0 rfl) rfl) ?_
  refine so (o_c1 rfl (c_key5 x.key _) ?_)
  rintro _ w3 ⟨rfl, hc⟩
  have mm := mm.frame hc
  refine s1 (r_ne rfl rfl) ?_
  refine wn ?_
  refine c_cond rfl (fun h => ?_) (fun h => (c_skip (t_n ?_)))
  · refine c_sreg rfl ?_
    refine s1 (r_asi rfl) ?_
    refine wn ?_
    refine c_ret (ret1 rfl rfl ⟨congrArg (Value.int .i64) ?_, mm.chg⟩)
    simp at h
    exact ((if_neg h1).trans ((if_pos h).trans (tKey_10 h))).symm
  have h2 : ¬ tKey x.key ≠ 0 := by simp at h; simp [h]
  clear h
  refine c_seq ?_
  refine c_sreg rfl ?_
  refine s1 (r_fa rfl) ?_
  refine s1 (r_ld rfl (mm.b 0 rfl) rfl) ?_
  refine s1 (r_eq rfl rfl) ?_
  refine s1 (r_mvb rfl) ?_
  refine sF rfl rfl (fun h => r_fa rfl) ?_
  refine sF rfl rfl (fun h => r_ld (sel_t h :) (mm.b 0 rfl) rfl) ?_
  refine sF rfl rfl (fun h => r_eq (sel_t h :) rfl) ?_
  refine s1 (r_or rfl rfl) ?_
  refine wn ?_
  refine c_cond rfl (fun h => ?_) (fun h => (c_skip (t_n ?_)))
  · have h3 : x.kind ≤ 2 := by simp at h; omega
    clear h
    refine c_seq ?_
    refine c_sreg rfl ?_
    refine s1 (r_fa rfl) ?_
    refine s1 (r_ld rfl (mm.b 0 rfl) rfl) ?_
    refine s1 (r_ne rfl rfl) ?_
    refine wn ?_
    refine c_cond rfl (fun h => ?_) (fun h => (c_skip (t_n ?_)))
    · refine c_sreg rfl ?_
      refine s1 (r_asi rfl) ?_
      refine wn ?_
      refine c_ret (ret1 rfl rfl ⟨congrArg (Value.int .i64) ?_, mm.chg⟩)
      simp at h
      exact ((if_neg h1).trans ((if_neg h2).trans ((if_pos h3).trans (if_pos h)))).symm
    have h4 : ¬ x.label ≠ 0 := by simp at h; simp [h]
    clear h
    refine c_seq ?_
    refine c_sreg rfl ?_
    refine s1 (r_fa rfl) ?_
    refine s1 (r_ld rfl (mm.b 0 rfl) rfl) ?_
    refine s1 (r_sne rfl rfl) ?_
    refine wn ?_
    refine c_cond rfl (fun h => ?_) (fun h => (c_skip (t_n ?_)))
    · refine c_sreg rfl ?_
      refine s1 (r_asi rfl) ?_
      refine wn ?_
      refine c_ret (ret1 rfl rfl ⟨congrArg (Value.int .i64) ?_, mm.chg⟩)
      simp at h
      exact ((if_neg h1).trans ((if_neg h2).trans ((if_pos h3).trans ((if_neg h4).trans (if_pos h))))).symm
    have h5 : ¬ x.val ≠ [] := by simp at h; simp [h]
    clear h
    refine c_sreg rfl ?_
    refine s1 (r_asi rfl) ?_
    refine wn ?_
    refine c_ret (ret1 rfl rfl ⟨congrArg (Value.int .i64) ?_, mm.chg⟩)
    exact ((if_neg h1).trans ((if_neg h2).trans ((if_pos h3).trans ((if_neg h4).trans (if_neg h5))))).symm
  have h3 : ¬ x.kind ≤ 2 := by simp at h; omega
  clear h
  refine c_seq ?_
  refine c_sreg rfl ?_
  refine s1 (r_fa rfl) ?_
  refine s1 (r_ld rfl (mm.b 0 rfl) rfl) ?_
  refine so (o_c1 rfl (c_label5 x.label _) ?_)
  rintro _ w4 ⟨rfl, hc⟩
  have mm := mm.frame hc
  refine s1 (r_ne rfl rfl) ?_
  refine wn ?_
  refine c_cond rfl (fun h => ?_) (fun h => (c_skip (t_n ?_)))
  · refine c_sreg rfl ?_
    refine s1 (r_asi rfl) ?_
    refine wn ?_
    refine c_ret (ret1 rfl rfl ⟨congrArg (Value.int .i64) ?_, mm.chg⟩)
    simp at h
    exact ((if_neg h1).trans ((if_neg h2).trans ((if_neg h3).trans ((if_pos h).trans (tLabel_11 h))))).symm
  have h4 : ¬ tLabel x.label ≠ 0 := by simp at h; simp [h]
  clear h
  refine c_sreg rfl ?_
  refine s1 (r_fa rfl) ?_
  refine s1 (r_ld rfl (mm.b 0 rfl) rfl) ?_
  refine so (o_c1 rfl (c_value5 x.val _) ?_)
  rintro _ w5 ⟨rfl, hc⟩
  have mm := mm.frame hc
  refine s1 (r_asi rfl) ?_
  refine wn ?_
  refine c_ret (ret1 rfl rfl ⟨congrArg (Value.int .i64) ?_, mm.chg⟩)
  exact ((if_neg h1).trans ((if_neg h2).trans ((if_neg h3).trans (if_neg h4)))).symm

theorem c_in6 (n lo hi : Int) (w : World) : Cl Try.prog 66 #[.int .i64 n, .int .i64 lo, .int .i64 hi] w (fun v w' => v = .bool (decide (lo ≤ n) && decide (n ≤ hi)) ∧ Chg No w w') := by
  refine f_enter (args := [_, _, _]) Try.func66 rfl rfl ?_
  have mm := Mem.nil No w
  refine c_sreg rfl ?_
  refine s1 (r_asb rfl) ?_
  refine wn ?_
  refine c_sreg rfl ?_
  refine s1 (r_mvi rfl) ?_
  refine s1 (r_mvi rfl) ?_
  refine s1 (r_ge rfl rfl) ?_
  refine s1 (r_mvb rfl) ?_
  refine sT rfl rfl (fun h => r_mvi rfl) ?_
  refine sT rfl rfl (fun h => r_mvi rfl) ?_
  refine sT rfl rfl (fun h => r_le (sel_t h :) (sel_t h :)) ?_
  refine s1 (r_and rfl rfl) ?_
  refine s1 (r_asb rfl) ?_
  refine wn ?_
  exact c_ret (ret1 rfl rfl ⟨rfl, mm.chg⟩)
theorem c_may6 (x : Ev) (w : World) : Cl Try.prog 45 #[.agg (evC x).toArray] w (fun v w' => v = .int .i64 (evMay x) ∧ Chg No w w') := by
  refine f_enter (args := [_]) Try.func45 rfl rfl ?_
  have mm := Mem.nil No w
  refine c_sreg rfl ?_
  refine so (o_bxa mm rfl fun b2 w2 mm => ?_)
  refine s1 (r_asi rfl) ?_
  refine wn ?_
  have hnr : ∀ r, r = x.r → 0 ≤ r → r ≤ 4 → nth (evC x) (0 + 2 + r.toNat * 1) = some (.int .i64 (x.c.get r.toNat)) := fun r _ h0 h4 => nth_evr x r h0 (by omega)
  refine c_seq ?_
  refine c_sdraw mixed [(0, true), (1, true), (2, false), (3, true), (4, true), (5, true), (6, true), (7, false), (8, true), (9, true), (10, true), (11, true), (12, true), (13, false), (14, true), (15, true), (16, true), (17, true), (18, true), (19, true), (20, true), (21, true), (22, true), (23, true), (24, true), (25, true), (26, true)] [true, true, true, true, true, true, true, true, true, true, true, true, true, true, true, true, true, true, true, true, true, true, true, true, true, true, true] (Sof mm) (by kernel_rfl) rfl rfl (by kernel_rfl) (fun w3 hc => ?_)
  have mm := mm.frame hc
  refine p1 rfl (fun w m => r_fa rfl) mm ?_
  refine p1 rfl (fun w m => r_ld rfl (m.b 0 rfl) rfl) mm ?_
  refine po rfl (o_c3 rfl rfl rfl (c_in6 _ _ _ _) ?_)
  rintro _ w4 ⟨rfl, hc⟩
  have mm := mm.frame hc
  refine ⟨fun _ => mm, ?_⟩
  refine p1 rfl (fun w m => r_not rfl) mm ?_
  refine p1 rfl (fun w m => r_mvb rfl) mm ?_
  refine pF rfl rfl rfl (fun h w m => r_fa rfl) mm ?_
  refine pF rfl rfl rfl (fun h w m => r_ld (sel_t h :) (m.b 0 rfl) rfl) mm ?_
  refine pFw (I := Sof mm) rfl rfl rfl mm (fun h => o_c3 (sel_t h :) rfl rfl (c_in6 _ _ _ _) (fun _ _ hh => ⟨hh.1, mm.frame hh.2⟩)) (fun w5 mm => ⟨fun _ => mm, ?_⟩)
  refine pF rfl rfl rfl (fun h w m => r_not (sel_t h :)) mm ?_
  refine p1 rfl (fun w m => r_or rfl rfl) mm ?_
  refine p1 rfl (fun w m => r_mvb rfl) mm ?_
  refine pF rfl rfl rfl (fun h w m => r_fa rfl) mm ?_
  refine pF rfl rfl rfl (fun h w m => r_ld (sel_t h :) (m.b 0 rfl) rfl) mm ?_
  refine pFw (I := Sof mm) rfl rfl rfl mm (fun h => o_c3 (sel_t h :) rfl rfl (c_in6 _ _ _ _) (fun _ _ hh => ⟨hh.1, mm.frame hh.2⟩)) (fun w6 mm => ⟨fun _ => mm, ?_⟩)
  refine pF rfl rfl rfl (fun h w m => r_not (sel_t h :)) mm ?_
  refine p1 rfl (fun w m => r_or rfl rfl) mm ?_
  refine p1 rfl (fun w m => r_mvb rfl) mm ?_
  refine pF rfl rfl rfl (fun h w m => r_fa rfl) mm ?_
  refine pF rfl rfl rfl (fun h w m => r_ld (sel_t h :) (m.b 0 rfl) rfl) mm ?_
  refine pF rfl rfl rfl (fun h w m => r_fa rfl) mm ?_
  refine pF rfl rfl rfl (fun h w m => r_ixa (sel_t h :) (sel_t h :) (by simp at h; omega) (by simp at h; omega)) mm ?_
  refine pF rfl rfl rfl (fun h w m => r_ld (sel_t h :) (m.b 0 rfl) (hnr _ rfl (by simp at h; omega) (by simp at h; omega))) mm ?_
  refine pF rfl rfl rfl (fun h w m => r_fa rfl) mm ?_
  refine pF rfl rfl rfl (fun h w m => r_ld (sel_t h :) (m.b 0 rfl) rfl) mm ?_
  refine pF rfl rfl rfl (fun h w m => r_sub (sel_t h :) rfl (wi (by simp at h; omega) (by simp at h; omega))) mm ?_
  refine pF rfl rfl rfl (fun h w m => r_ne (sel_t h :) (sel_t h :)) mm ?_
  refine p1 rfl (fun w m => r_or rfl rfl) mm ?_
  refine pn ?_
  refine c_cond rfl (fun h => ?_) (fun h => (c_skip (t_n ?_)))
  · refine c_sreg rfl ?_
    refine s1 (r_asi rfl) ?_
    refine wn ?_
    refine c_ret (ret1 rfl rfl ⟨congrArg (Value.int .i64) ?_, mm.chg⟩)
    refine (if_neg ?_).symm
    intro hh
    simp only [evHead, Bool.and_eq_true, decide_eq_true_eq] at hh
    simp at h
    omega
  have hd : 0 ≤ x.r ∧ x.r < 5 ∧ 1 ≤ x.n ∧ x.n ≤ 1048576 ∧ x.c.get x.r.toNat = x.n - 1 ∧ 1 ≤ x.h ∧ x.h ≤ 16777216 := by simp at h; omega
  clear h
  have mm : Mem w No _ [bk b2 (evC x) 67] := mm
  refine c_seq ?_
  refine c_sreg rfl ?_
  refine s1 (r_asi rfl) ?_
  refine wn ?_
  refine c_block ?_
  refine c_loop (fun k e w' => ∃ i, k + i = 5 ∧ e 1 = .pointer (some ⟨b2, 0, none⟩) ∧ e 3 = .int .i64 (i : Nat) ∧ Mem w No w' [bk b2 (evC x) 67] ∧ ∀ j, j < i → inEv (x.c.get j) = true) 5 ?_ ?_
  · exact ⟨0, rfl, rfl, rfl, mm, fun j hj => absurd hj (by omega)⟩
  clear mm
  rintro k e w9 ⟨i, hki, h1, h3, mm, hall⟩
  refine c_seq ?_
  refine c_sreg rfl ?_
  refine s1 (r_mvi h3) ?_
  refine s1 (r_lt rfl rfl) ?_
  refine wn ?_
  refine c_cond rfl (fun h => (c_skip (t_n ?_))) (fun h => (c_exit (t_x (t_x (b_x (t_n ?_))))))
  · have hi : i < 5 := by simp at h; omega
    clear h
    refine c_seq ?_
    refine c_block ?_
    refine c_sreg rfl ?_
    refine s1 (r_mvi h3) ?_
    refine s1 (r_fa h1) ?_
    refine s1 (r_ixa rfl rfl (by omega) (by omega)) ?_
    refine s1 (r_ld rfl (mm.b 0 rfl) (nth_evi x i hi)) ?_
    refine so (o_c3 rfl rfl rfl (c_in6 _ _ _ _) ?_)
    rintro _ w7 ⟨rfl, hc⟩
    have mm := mm.frame hc
    refine s1 (r_not rfl) ?_
    refine wn ?_
    refine c_cond rfl (fun h => ?_) (fun h => (c_skip (b_n (t_n ?_))))
    · refine c_sreg rfl ?_
      refine s1 (r_asi rfl) ?_
      refine wn ?_
      refine c_ret (ret1 rfl rfl ⟨congrArg (Value.int .i64) ?_, mm.chg⟩)
      refine (if_neg ?_).symm
      intro hh
      simp only [evHead, Bool.and_eq_true] at hh
      have := (Clk.all_iff _ _).1 hh.2 i hi
      simp [inEv] at this h
      omega
    refine c_region rfl ?_
    refine s1 (r_mvi h3) ?_
    refine s1 (r_add rfl rfl (wi (by omega) (by omega))) ?_
    refine s1 (r_asi rfl) ?_
    refine wn (t_n ?_)
    refine ⟨k - 1, by omega, i + 1, by omega, h1, rfl, mm, ?_⟩
    intro j hj
    rcases Nat.lt_or_ge j i with hlt | hge
    · exact hall j hlt
    · obtain rfl : j = i := by omega
      simp [inEv] at h ⊢
      omega
  · have hi : i = 5 := by simp at h; omega
    subst hi
    have hh : evHead x = true := by
      simp only [evHead, Bool.and_eq_true, decide_eq_true_eq]
      exact ⟨⟨⟨⟨⟨⟨⟨hd.1, hd.2.1⟩, hd.2.2.1⟩, hd.2.2.2.1⟩, hd.2.2.2.2.1⟩, hd.2.2.2.2.2.1⟩, hd.2.2.2.2.2.2⟩, (Clk.all_iff _ _).2 hall⟩
    refine c_sreg rfl ?_
    refine s1 (r_lda h1 (mm.b 0 rfl) rfl) ?_
    refine so (o_c1 rfl (c_edit6 x _) ?_)
    rintro _ w8 ⟨rfl, hc⟩
    have mm := mm.frame hc
    refine so (o_c1 rfl (c_edit5 x.ed _) ?_)
    rintro _ w9 ⟨rfl, hc⟩
    have mm := mm.frame hc
    refine s1 (r_asi rfl) ?_
    refine wn ?_
    refine c_ret (ret1 rfl rfl ⟨congrArg (Value.int .i64) ?_, mm.chg⟩)
    exact (if_pos hh).symm

theorem len3 {α : Type} (a b c : List α) : (a ++ (b ++ c)).length = (a ++ b).length + c.length := by rw [← List.append_assoc, List.length_append]
theorem u8s3 (a b c : List UInt8) : u8s (a ++ (b ++ c)) = u8s (a ++ b) ++ u8s c := by rw [← List.append_assoc, u8s_append (a ++ b)]
theorem K.Mem.castp {w0 w : World} {F0 : Nat → Prop} {I : It} {T : TypeId} {sz n n' c : Nat} {a : Option Addr} {cs cs' : List Value} (h : Mem w0 F0 w [I, own T sz a n c cs]) (hn : n = n') (hc : cs = cs') : Mem w0 F0 w [I, own T sz a n' c cs'] := by subst hn; subst hc; exact h
theorem c_put6 (x : Ev) (w : World) : Cl Try.prog 25 #[.agg (evC x).toArray] w (fun v w' => ∃ a c, v = .tuple #[.slice a (if evMay x = 0 then putE x else []).length c, .int .i64 (evMay x)] ∧ Chg No w w' ∧ New w w' (own 5 1 a (if evMay x = 0 then putE x else []).length c (u8s (if evMay x = 0 then putE x else [])))) := by
  refine f_enter (args := [_]) Try.func25 rfl rfl ?_
  have mm := Mem.nil No w
  refine c_sreg rfl ?_
  refine so (o_bxa mm rfl fun b2 w2 mm => ?_)
  refine s1 (r_ass rfl) ?_
  refine s1 (r_asi rfl) ?_
  refine wn ?_
  refine c_sreg rfl ?_
  refine s1 (r_lda rfl (mm.b 0 rfl) rfl) ?_
  refine so (o_c1 rfl (c_may6 x _) ?_)
  rintro _ w3 ⟨rfl, hc⟩
  have mm := mm.frame hc
  refine s1 (r_asi rfl) ?_
  refine wn ?_
  refine c_seq ?_
  refine c_sreg rfl ?_
  refine s1 (r_mvi rfl) ?_
  refine s1 (r_ne rfl rfl) ?_
  refine wn ?_
  refine c_cond rfl (fun h => ?_) (fun h => (c_skip (t_n ?_)))
  · have hn : evMay x ≠ 0 := by simp at h; exact h
    refine c_sreg rfl ?_
    refine s1 (r_mvi rfl) ?_
    refine s1 (r_ass rfl) ?_
    refine s1 (r_asi rfl) ?_
    refine wn ?_
    rw [if_neg hn]
    have mm := mm.nilrow (T := 5) (sz := 1)
    exact c_ret (ret2 rfl rfl rfl ⟨none, 0, rfl, mm.chg, mm.isNew 1 rfl⟩)
  have hz : evMay x = 0 := by simp at h; exact h
  have hk := evMay_ok hz
  rw [if_pos hz, hz]
  clear h
  refine c_sreg rfl ?_
  refine s1 (r_fa rfl) ?_
  refine s1 (r_ld rfl (mm.b 0 rfl) rfl) ?_
  refine s1 (r_cv rfl rfl) ?_
  refine s1 (r_fa rfl) ?_
  refine s1 (r_ld rfl (mm.b 0 rfl) rfl) ?_
  refine s1 (r_cv rfl rfl) ?_
  refine so (o_bi2 mm rfl rfl fun a4 c4 w4 mm => ?_)
  refine s1 (r_ass rfl) ?_
  refine wn ?_
  rw [u8_int _ (by have := hk.k1; omega), u8_int _ hk.r0] at mm
  have mm : Mem w No _ [bk b2 (evC x) 67, own 5 1 a4 [UInt8.ofNat x.kind.toNat, UInt8.ofNat x.r.toNat].length c4 (u8s [UInt8.ofNat x.kind.toNat, UInt8.ofNat x.r.toNat])] := mm
  generalize hp0 : [UInt8.ofNat x.kind.toNat, UInt8.ofNat x.r.toNat] = q0 at *
  have hl0 : q0.length = 2 := by rw [← hp0]; rfl
  have hl := vput_len10 x.n.toNat (by have := hk.n2; omega)
  refine c_sreg rfl ?_
  refine s1 (r_mvs (show _ = Value.slice a4 q0.length c4 by rw [hl0]; rfl)) ?_
  refine s1 (r_fa rfl) ?_
  refine s1 (r_ld rfl (mm.b 0 rfl) rfl) ?_
  refine s1 (r_cv rfl (wu64n (by have := hk.n1; omega) (by have := hk.n2; omega))) ?_
  refine so (o_c1 rfl (c_vput1 x.n.toNat (by have := hk.n2; omega) _) ?_)
  rintro _ w5 ⟨a5, c5, rfl, hc, hn⟩
  have mm := mm.new hc hn
  refine so (o_ap mm 1 rfl rfl rfl (src_own mm  2 rfl (ones_u8s _)) (by omega) (by unfold maxLen; omega) fun a6 c6 w6 mm => ?_)
  refine s1 (r_ass rfl) ?_
  refine wn ?_
  have mm := (mm.pk [0, 1] (by decide)).castp (n' := (q0 ++ vput x.n.toNat).length) (cs' := u8s (q0 ++ vput x.n.toNat)) List.length_append.symm (u8s_append _ _).symm
  generalize hp1 : q0 ++ vput x.n.toNat = q1 at *
  have hl1 : q1.length ≤ 12 := by rw [← hp1, List.length_append]; omega
  refine c_seq ?_
  refine c_sreg rfl ?_
  refine s1 (r_asi rfl) ?_
  refine wn ?_
  refine c_block ?_
  refine c_loop (fun k e w' => ∃ (i : Nat) (a : Option Addr) (c : Nat), k + i = 5 ∧ e 1 = .pointer (some ⟨b2, 0, none⟩) ∧ e 5 = .slice a (q1 ++ ctxB x i).length c ∧ e 6 = .int .i64 (i : Nat) ∧ Mem w No w' [bk b2 (evC x) 67, own 5 1 a (q1 ++ ctxB x i).length c (u8s (q1 ++ ctxB x i))] ∧ (ctxB x i).length ≤ 10 * i) 5 ?_ ?_
  · refine ⟨0, a6, c6, rfl, rfl, ?_, rfl, ?_, Nat.le_refl _⟩
    rotate_left
    · have e0 : ctxB x 0 = [] := rfl
      rw [e0, List.append_nil]; exact mm
    · have e0 : ctxB x 0 = [] := rfl
      rw [e0, List.append_nil, ← hp1, List.length_append]; rfl
  clear mm hc hn
  rintro k e w9 ⟨i, a, c, hki, h1, h5, h6, mm, hle⟩
  have hle2 : (q1 ++ ctxB x i).length ≤ 12 + 10 * i := by rw [List.length_append]; omega
  refine c_seq ?_
  refine c_sreg rfl ?_
  refine s1 (r_mvi h6) ?_
  refine s1 (r_lt rfl rfl) ?_
  refine wn ?_
  refine c_cond rfl (fun h => (c_skip (t_n ?_))) (fun h => (c_exit (t_x (t_x (b_x (t_n ?_))))))
  · have hi : i < 5 := by simp at h; omega
    clear h
    refine c_seq ?_
    refine c_block ?_
    refine c_sreg rfl ?_
    refine s1 (r_mvi h6) ?_
    refine s1 (r_fa h1) ?_
    refine s1 (r_ld rfl (mm.b 0 rfl) rfl) ?_
    refine s1 (r_ne rfl rfl) ?_
    refine wn ?_
    refine c_mid1 (fun e w' => ∃ a c, e 1 = .pointer (some ⟨b2, 0, none⟩) ∧ e 5 = .slice a (q1 ++ ctxB x (i + 1)).length c ∧ e 6 = .int .i64 (i : Nat) ∧ Mem w No w' [bk b2 (evC x) 67, own 5 1 a (q1 ++ ctxB x (i + 1)).length c (u8s (q1 ++ ctxB x (i + 1)))] ∧ (ctxB x (i + 1)).length ≤ 10 * (i + 1)) ?_ ?_
    · refine c_cond rfl (fun h => ?_) (fun h => (c_skip (t_n ?_)))
      · have hne : (i : Int) ≠ x.r := by simpa using h
        have hci := hk.c i hi
        have hl2 := vput_len10 (x.c.get i).toNat (by omega)
        have hsn : ctxB x (i + 1) = ctxB x i ++ vput (x.c.get i).toNat := by rw [ctxB_succ, if_pos hne]
        refine c_region rfl ?_
        refine s1 (r_mvs h5) ?_
        refine s1 (r_mvi h6) ?_
        refine s1 (r_fa h1) ?_
        refine s1 (r_ixa rfl rfl (by omega) (by omega)) ?_
        refine s1 (r_ld rfl (mm.b 0 rfl) (nth_evi x i hi)) ?_
        refine s1 (r_cv rfl (wu64n hci.1 (by omega))) ?_
        refine so (o_c1 rfl (c_vput1 (x.c.get i).toNat (by omega) _) ?_)
        rintro _ w7 ⟨a7, c7, rfl, hc, hn⟩
        have mm := mm.new hc hn
        refine so (o_ap mm 1 rfl rfl rfl (src_own mm  2 rfl (ones_u8s _)) (by omega) (by unfold maxLen; omega) fun a8 c8 w8 mm => ?_)
        refine s1 (r_ass rfl) ?_
        refine wn (t_n ?_)
        have mm := (mm.pk [0, 1] (by decide)).castp (n' := (q1 ++ ctxB x (i + 1)).length) (cs' := u8s (q1 ++ ctxB x (i + 1))) (by rw [hsn, len3]) (by rw [hsn, u8s3])
        refine ⟨_, _, h1, ?_, h6, mm, by rw [hsn, List.length_append]; omega⟩
        rw [hsn, len3]; rfl
      · have hne : ¬ (i : Int) ≠ x.r := by simpa using h
        have hsn : ctxB x (i + 1) = ctxB x i := by rw [ctxB_succ, if_neg hne, List.append_nil]
        rw [hsn]
        exact ⟨_, _, h1, h5, h6, mm, by omega⟩
    clear mm h1 h5 h6 hle hle2
    clear a c
    rintro e w9 ⟨a, c, h1, h5, h6, mm, hle⟩
    refine c_region rfl ?_
    refine s1 (r_mvi h6) ?_
    refine s1 (r_add rfl rfl (wi (by omega) (by omega))) ?_
    refine s1 (r_asi rfl) ?_
    refine wn (t_n ?_)
    exact ⟨k - 1, by omega, i + 1, a, c, by omega, h1, h5, rfl, mm, hle⟩
  have hi : i = 5 := by simp at h; omega
  subst hi
  clear h h6
  generalize hp2 : q1 ++ ctxB x 5 = q2 at *
  have hl3 := vput_len10 x.h.toNat (by have := hk.h2; omega)
  refine c_sreg rfl ?_
  refine s1 (r_mvs h5) ?_
  refine s1 (r_fa h1) ?_
  refine s1 (r_ld rfl (mm.b 0 rfl) rfl) ?_
  refine s1 (r_cv rfl (wu64n (by have := hk.h1; omega) (by have := hk.h2; omega))) ?_
  refine so (o_c1 rfl (c_vput1 x.h.toNat (by have := hk.h2; omega) _) ?_)
  rintro _ w9 ⟨a9, c9, rfl, hc, hn⟩
  have mm := mm.new hc hn
  refine so (o_ap mm 1 rfl rfl rfl (src_own mm  2 rfl (ones_u8s _)) (by omega) (by unfold maxLen; omega) fun a10 c10 w10 mm => ?_)
  refine s1 (r_ass rfl) ?_
  refine wn ?_
  have mm := (mm.pk [0, 1] (by decide)).castp (n' := (q2 ++ vput x.h.toNat).length) (cs' := u8s (q2 ++ vput x.h.toNat)) List.length_append.symm (u8s_append _ _).symm
  have hp3l : (q2 ++ vput x.h.toNat).length = q2.length + (vput x.h.toNat).length := List.length_append
  generalize hp3 : q2 ++ vput x.h.toNat = q3 at *
  have hk8 := hk.key8
  refine c_sdraw mixed [(0, true), (1, true), (2, true), (3, true), (4, true), (7, true), (8, true), (5, false), (6, false), (9, false), (10, true)] [true, true, true, true, true, true, true, true, true, true, true] (Sof (mm.pk [0] (by decide))) (by kernel_rfl) rfl rfl (by kernel_rfl) (fun w11 hc => ?_)
  have mm := mm.frame hc
  refine p1 rfl (fun w m => r_mvs (show _ = Value.slice a10 q3.length c10 by rw [hp3l]; rfl)) (mm.pk [0] (by decide)) ?_
  refine p1 rfl (fun w m => r_fa h1) (mm.pk [0] (by decide)) ?_
  refine p1 rfl (fun w m => r_ld rfl (m.b 0 rfl) rfl) (mm.pk [0] (by decide)) ?_
  refine p1 rfl (fun w m => r_slen rfl) (mm.pk [0] (by decide)) ?_
  refine p1 rfl (fun w m => r_cv rfl rfl) (mm.pk [0] (by decide)) ?_
  refine p1 rfl (fun w m => r_fa h1) (mm.pk [0] (by decide)) ?_
  refine p1 rfl (fun w m => r_ld rfl (m.b 0 rfl) rfl) (mm.pk [0] (by decide)) ?_
  refine po rfl (o_bi1 mm rfl fun a12 c12 w12 mm => ⟨fun _ => (mm.sub [0] _ (by decide) rfl), ?_⟩)
  refine po rfl (o_ap mm 1 rfl rfl rfl (src_own mm 2 rfl rfl) (by omega) (by unfold maxLen; omega) fun a13 c13 w13 mm => ⟨fun _ => (mm.sub [0] _ (by decide) rfl), ?_⟩)
  refine po rfl (o_ap mm 1 rfl rfl rfl src_str (by omega) (by unfold maxLen; omega) fun a14 c14 w14 mm => ⟨fun _ => (mm.sub [0] _ (by decide) rfl), ?_⟩)
  refine p1 rfl (fun w m => r_ass rfl) (mm.pk [0] (by decide)) ?_
  refine pn ?_
  have mm := (mm.pk [0, 1] (by decide)).castp (n' := (q3 ++ UInt8.ofNat x.key.length :: x.key).length) (cs' := u8s (q3 ++ UInt8.ofNat x.key.length :: x.key)) (by rw [List.length_append, List.length_cons]; omega) (by rw [u8s_append]; simp [u8s, u8_any])
  have hp4l : (q3 ++ UInt8.ofNat x.key.length :: x.key).length = q3.length + 1 + x.key.length := by rw [List.length_append, List.length_cons]; omega
  generalize hp4 : q3 ++ UInt8.ofNat x.key.length :: x.key = q4 at *
  have hput : putE x = q4 ++ (if 2 < x.kind then UInt8.ofNat x.label.toNat :: UInt8.ofNat x.val.length :: x.val else []) := by rw [← hp4, ← hp3, ← hp2, ← hp1, ← hp0]; rfl
  have hv12 := hk.v12
  refine c_seq ?_
  refine c_sreg rfl ?_
  refine s1 (r_fa h1) ?_
  refine s1 (r_ld rfl (mm.b 0 rfl) rfl) ?_
  refine s1 (r_gt rfl rfl) ?_
  refine wn ?_
  refine c_cond rfl (fun h => ?_) (fun h => (c_skip (t_n ?_)))
  · have hk2 : 2 < x.kind := by simpa using h
    rw [if_pos hk2] at hput
    refine c_draw mixed [(0, true), (1, true), (2, true), (3, true), (4, true), (5, true), (6, true), (7, true), (10, true), (11, true), (8, false), (9, false), (12, false), (13, true)] [true, true, true, true, true, true, true, true, true, true, true, true, true, true] (Sof (mm.pk [0] (by decide))) (by kernel_rfl) rfl rfl (by kernel_rfl) (fun w15 hc => ?_)
    have mm := mm.frame hc
    refine p1 rfl (fun w m => r_mvs (show _ = Value.slice a14 q4.length c14 by rw [hp4l]; rfl)) (mm.pk [0] (by decide)) ?_
    refine p1 rfl (fun w m => r_fa h1) (mm.pk [0] (by decide)) ?_
    refine p1 rfl (fun w m => r_ld rfl (m.b 0 rfl) rfl) (mm.pk [0] (by decide)) ?_
    refine p1 rfl (fun w m => r_cv rfl rfl) (mm.pk [0] (by decide)) ?_
    refine p1 rfl (fun w m => r_fa h1) (mm.pk [0] (by decide)) ?_
    refine p1 rfl (fun w m => r_ld rfl (m.b 0 rfl) rfl) (mm.pk [0] (by decide)) ?_
    refine p1 rfl (fun w m => r_slen rfl) (mm.pk [0] (by decide)) ?_
    refine p1 rfl (fun w m => r_cv rfl rfl) (mm.pk [0] (by decide)) ?_
    refine p1 rfl (fun w m => r_fa h1) (mm.pk [0] (by decide)) ?_
    refine p1 rfl (fun w m => r_ld rfl (m.b 0 rfl) rfl) (mm.pk [0] (by decide)) ?_
    refine po rfl (o_bi2 mm rfl rfl fun a16 c16 w16 mm => ⟨fun _ => (mm.sub [0] _ (by decide) rfl), ?_⟩)
    refine po rfl (o_ap mm 1 rfl rfl rfl (src_own mm 2 rfl rfl) (by omega) (by unfold maxLen; omega) fun a17 c17 w17 mm => ⟨fun _ => (mm.sub [0] _ (by decide) rfl), ?_⟩)
    refine po rfl (o_ap mm 1 rfl rfl rfl src_str (by omega) (by unfold maxLen; omega) fun a18 c18 w18 mm => ⟨fun _ => (mm.sub [0] _ (by decide) rfl), ?_⟩)
    refine p1 rfl (fun w m => r_ass rfl) (mm.pk [0] (by decide)) ?_
    refine pn (t_n ?_)
    rw [hput]
    have hp5l : (q4 ++ UInt8.ofNat x.label.toNat :: UInt8.ofNat x.val.length :: x.val).length = q4.length + 2 + x.val.length := by rw [List.length_append, List.length_cons, List.length_cons]; omega
    have mm := (mm.pk [0, 1] (by decide)).castp (n' := (q4 ++ UInt8.ofNat x.label.toNat :: UInt8.ofNat x.val.length :: x.val).length) (cs' := u8s (q4 ++ UInt8.ofNat x.label.toNat :: UInt8.ofNat x.val.length :: x.val)) hp5l.symm (by rw [u8s_append]; simp [u8s, u8_any, u8_int _ hk.l0])
    refine c_sreg rfl ?_
    refine s1 (r_mvs rfl) ?_
    refine s1 (r_ass rfl) ?_
    refine s1 (r_asi rfl) ?_
    refine wn ?_
    refine c_ret (ret2 rfl rfl rfl ⟨_, _, ?_, mm.chg, mm.isNew 1 rfl⟩)
    rw [hp5l]; rfl
  · have hk2 : ¬ 2 < x.kind := by simpa using h
    rw [if_neg hk2, List.append_nil] at hput
    rw [hput]
    refine c_sreg rfl ?_
    refine s1 (r_mvs (show _ = Value.slice a14 q4.length c14 by rw [hp4l]; rfl)) ?_
    refine s1 (r_ass rfl) ?_
    refine s1 (r_asi rfl) ?_
    refine wn ?_
    exact c_ret (ret2 rfl rfl rfl ⟨_, _, by rw [hp4l]; rfl, mm.chg, mm.isNew 1 rfl⟩)
end Go.Proofs.Ytbcpabfemejlgaa
