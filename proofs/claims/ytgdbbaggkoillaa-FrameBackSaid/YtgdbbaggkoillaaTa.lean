/- varint.Take: the walk. -/
import Derived.Test.YtgdbbaggkoillaaEw
import Derived.Test.YtgdbbaggkoillaaTk
namespace Go.Proofs.Ytgdbbaggkoillaa
open K
set_option maxRecDepth 100000
set_option maxHeartbeats 4000000

/-- A slice whose bytes are these. -/
def Sl (w : World) (v : Value) (b : List UInt8) : Prop := ∃ a c, v = .slice a b.length c ∧ b.length ≤ c ∧ Cells w a (u8s b)
theorem nth_u8s (l : List UInt8) (i : Nat) (h : i < l.length) : nth (u8s l) ((i : Int).toNat * 1) = some (u8 (l.getD i 0)) := by
  rw [nth_eq]
  simp [u8s, List.getD, h]
theorem K.Cells.some {w : World} {a : Option Addr} {cs : List Value} (h : Cells w a cs) {j : Nat} {v : Value} (hj : nth cs j = some v) : a.isSome = true := by
  obtain ⟨ad, rfl, _⟩ := h j v hj
  rfl
theorem shl7 (x : Int) (i : Nat) (hi : i ≤ 9) : IntKind.u64.wrap (x * 2 ^ (min (7 * (i : Int)).toNat IntKind.u64.bits)) = IntKind.u64.wrap (x * 2 ^ (7 * i)) := by
  have : min (7 * (i : Int)).toNat IntKind.u64.bits = 7 * i := by show min (7 * (i : Int)).toNat 64 = 7 * i; omega
  rw [this]
theorem drop_get (b : List UInt8) (i : Nat) (h : i < b.length) : b.drop i = b.getD i 0 :: b.drop (i + 1) := by
  rw [List.drop_eq_getElem_cons h]
  simp [List.getD, h]

theorem c_vtake (b : List UInt8) (hb : b.length ≤ 4611686018427387904) (v : Value) (w : World) (hs : Sl w v b) : Cl Try.prog 42 #[v] w (fun r w' => r = .tuple #[.int .u64 (vtake b).1, .int .i64 (vtake b).2.1, .int .i64 (vtake b).2.2] ∧ Chg No w w') := by
  obtain ⟨a, c, rfl, hc, H⟩ := hs
  refine f_enter (args := [_]) Try.func42 rfl rfl ?_
  have mm := Mem.nil No w
  have hmin : (min (b.length : Int) 10) = ((min b.length 10 : Nat) : Int) := by omega
  refine c_sreg rfl ?_
  refine s1 (r_asi rfl) ?_
  refine s1 (r_asi rfl) ?_
  refine s1 (r_asi rfl) ?_
  refine wn ?_
  refine c_seq ?_
  refine c_sreg rfl ?_
  refine s1 (r_mvs rfl) ?_
  refine s1 (r_mvs rfl) ?_
  refine s1 (r_len rfl) ?_
  refine s1 (r_min2 rfl rfl) ?_
  refine s1 (r_slh rfl rfl (by omega) (by omega)) ?_
  refine s1 (r_len rfl) ?_
  refine s1 (r_mvi rfl) ?_
  refine wn ?_
  refine c_block ?_
  refine c_loop (fun k e w' => ∃ (i m : Nat), k + i = min b.length 10 ∧ e 0 = .slice a b.length c ∧ e 2 = .int .u64 m ∧ e 11 = .slice a (min b.length 10) c ∧ e 12 = .int .i64 (min b.length 10 : Nat) ∧ e 13 = .int .i64 i ∧ Mem w No w' [] ∧ (i ≤ 9 → m < 128 ^ i ∧ vgo (b.drop i) i m = vtake b) ∧ (i = 10 → vtake b = (0, 0, 3))) (min b.length 10) ?_ ?_
  · refine ⟨0, 0, rfl, rfl, rfl, ?_, ?_, rfl, mm, fun _ => ⟨by decide, rfl⟩, fun h => by cases h⟩
    · show Value.slice a (min (b.length : Int) 10).toNat c = _
      rw [hmin]; rfl
    · show Value.int .i64 (((min (b.length : Int) 10).toNat : Nat) : Int) = _
      rw [hmin]; rfl
  generalize hN : min b.length 10 = N at *
  clear mm
  rintro k e w' ⟨i, m, hki, h0, h2, h11, h12, h13, mm, hi9, hi10⟩
  refine c_sreg rfl ?_
  refine s1 (r_lt h13 h12) ?_
  refine wn ?_
  refine c_seq ?_
  refine c_cond rfl (fun h => (c_skip (t_n ?_))) (fun h => (c_exit (t_x (t_x (b_x (t_n ?_))))))
  · have hi : i < N := by simp at h; omega
    obtain ⟨hm, hv⟩ := hi9 (by omega)
    have hd := drop_get b i (by omega)
    clear h
    refine c_seq ?_
    refine c_block ?_
    refine c_sreg rfl ?_
    refine s1 (r_mvi h13) ?_
    refine s1 (r_ix h11 h13 (by omega) (by omega) (H.some (nth_u8s b i (by omega)))) ?_
    refine s1 (r_ldc rfl (mm.ro H) (nth_u8s b i (by omega))) ?_
    refine s1 (r_asi rfl) ?_
    refine s1 (r_asi rfl) ?_
    refine wn ?_
    generalize b.getD i 0 = x at *
    have hx := x.toNat_lt
    refine c_sreg rfl ?_
    refine s1 (r_mvi h2) ?_
    refine s1 (r_mvi rfl) ?_
    refine s1 (r_bnot rfl rfl (u8_clear x)) ?_
    refine s1 (r_cv rfl (wu64 (by omega) (by omega))) ?_
    refine s1 (r_mvi rfl) ?_
    refine s1 (r_mul rfl rfl (wi (by omega) (by omega))) ?_
    refine s1 (r_shl rfl rfl (by omega) (shl7 _ i (by omega))) ?_
    refine s1 (r_bor rfl rfl (or_shift m (x.toNat % 128) i hm (by omega))) ?_
    refine s1 (r_asi rfl) ?_
    refine wn ?_
    refine c_seq ?_
    refine c_sreg rfl ?_
    refine s1 (r_mvi rfl) ?_
    refine s1 (r_band rfl rfl rfl) ?_
    refine s1 (r_ne rfl rfl) ?_
    refine wn ?_
    refine c_cond rfl (fun h => (c_exit (t_x (b_x (t_n ?_))))) (fun h => (c_skip (t_n ?_)))
    · have hx2 : 128 ≤ x.toNat := (u8_top x).1 (by simpa using h)
      refine c_region rfl ?_
      refine s1 (r_add h13 rfl (wi (by omega) (by omega))) ?_
      refine s1 (r_mvi rfl) ?_
      refine wn (t_n ?_)
      refine ⟨k - 1, by omega, i + 1, _, by omega, h0, rfl, h11, h12, rfl, mm, ?_, ?_⟩
      · intro hi1
        have hp : 128 ^ i * 128 = 128 ^ (i + 1) := (Nat.pow_succ ..).symm
        have hp64 : 128 ^ (i + 1) ≤ 128 ^ 9 := Nat.pow_le_pow_right (by decide) hi1
        have hlt : x.toNat % 128 * 128 ^ i < 2 ^ 64 := by
          have : x.toNat % 128 * 128 ^ i ≤ 127 * 128 ^ i := Nat.mul_le_mul_right _ (by omega)
          omega
        rw [Nat.mod_eq_of_lt hlt]
        have h127 : x.toNat % 128 * 128 ^ i ≤ 127 * 128 ^ i := Nat.mul_le_mul_right _ (by omega)
        refine ⟨by omega, ?_⟩
        rw [← hv, hd]
        simp only [vgo]
        rw [if_neg (by omega), if_pos hx2]
      · intro hi1
        have : i = 9 := by omega
        subst this
        rw [← hv, hd]
        simp only [vgo]
        rw [if_neg (by omega), if_pos hx2]
        exact vgo10 _ _
    have hx2 : ¬ 128 ≤ x.toNat := fun hh => absurd ((u8_top x).2 hh) (by simpa using h)
    clear h
    refine c_seq ?_
    refine c_sreg rfl ?_
    refine s1 (r_mvi rfl) ?_
    refine s1 (r_eq rfl rfl) ?_
    refine s1 (r_mvb rfl) ?_
    refine sT rfl rfl (fun h => r_mvi rfl) ?_
    refine sT rfl rfl (fun h => r_gt (sel_t h :) rfl) ?_
    refine s1 (r_and rfl rfl) ?_
    refine s1 (r_mvb rfl) ?_
    refine sF rfl rfl (fun h => r_mvi rfl) ?_
    refine sF rfl rfl (fun h => r_eq (sel_t h :) rfl) ?_
    refine sF rfl rfl (fun h => r_mvb (sel_t h :)) ?_
    refine sTs rfl rfl (fun h => r_mvi rfl) ?_
    refine sTs rfl rfl (fun h => r_gt (sel_t h :) rfl) ?_
    refine sF rfl rfl (fun h => r_and (sel_t h :) (sel_and h :)) ?_
    refine s1 (r_or rfl rfl) ?_
    refine wn ?_
    have hv2 : vgo (b.drop i) i m = if (x.toNat = 0 ∧ 0 < i) ∨ (i = 9 ∧ 1 < x.toNat) then (0, 0, 3) else (m + x.toNat * 128 ^ i, i + 1, 0) := by
      rw [hd]
      simp only [vgo]
      rw [if_neg (by omega), if_neg hx2]
    rw [hv] at hv2
    refine c_cond rfl (fun h => ?_) (fun h => (c_skip (t_n ?_)))
    · have hq : (x.toNat = 0 ∧ 0 < i) ∨ (i = 9 ∧ 1 < x.toNat) := by
        simp at h
        omega
      rw [if_pos hq] at hv2
      refine c_sreg rfl ?_
      refine s1 (r_asi rfl) ?_
      refine s1 (r_asi rfl) ?_
      refine s1 (r_asi rfl) ?_
      refine wn ?_
      rw [hv2]
      exact c_ret (ret3 rfl rfl rfl rfl ⟨rfl, mm.chg⟩)
    have hq : ¬ ((x.toNat = 0 ∧ 0 < i) ∨ (i = 9 ∧ 1 < x.toNat)) := by
      simp at h
      omega
    rw [if_neg hq] at hv2
    have hlt : x.toNat % 128 * 128 ^ i % 2 ^ 64 = x.toNat * 128 ^ i := by
      rw [Nat.mod_eq_of_lt (show x.toNat < 128 by omega)]
      refine Nat.mod_eq_of_lt ?_
      by_cases h9 : i = 9
      · have : x.toNat * 128 ^ i ≤ 1 * 128 ^ i := Nat.mul_le_mul_right _ (by omega)
        rw [h9] at this ⊢
        omega
      · have h1 : x.toNat * 128 ^ i ≤ 127 * 128 ^ i := Nat.mul_le_mul_right _ (by omega)
        have h2 : 128 ^ i ≤ 128 ^ 8 := Nat.pow_le_pow_right (by decide) (by omega)
        omega
    refine c_sreg rfl ?_
    refine s1 (r_mvi rfl) ?_
    refine s1 (r_mvi rfl) ?_
    refine s1 (r_add rfl rfl (wi (by omega) (by omega))) ?_
    refine s1 (r_asi rfl) ?_
    refine s1 (r_asi rfl) ?_
    refine s1 (r_asi rfl) ?_
    refine wn ?_
    rw [hv2]
    refine c_ret (ret3 rfl rfl rfl rfl ⟨?_, mm.chg⟩)
    rw [← hlt]
    rfl
  have hi : i = N := by simp at h; omega
  clear h
  refine c_seq ?_
  refine c_sreg rfl ?_
  refine s1 (r_mvs h0) ?_
  refine s1 (r_len rfl) ?_
  refine s1 (r_ge rfl rfl) ?_
  refine wn ?_
  refine c_cond rfl (fun h => ?_) (fun h => (c_skip (t_n ?_)))
  · have hl : 10 ≤ b.length := by simp at h; omega
    rw [hi10 (by omega)]
    refine c_sreg rfl ?_
    refine s1 (r_asi rfl) ?_
    refine s1 (r_asi rfl) ?_
    refine s1 (r_asi rfl) ?_
    refine wn ?_
    exact c_ret (ret3 rfl rfl rfl rfl ⟨rfl, mm.chg⟩)
  have hl : ¬ 10 ≤ b.length := by simp at h; omega
  have hv : vtake b = (0, 0, 2) := by
    rw [← (hi9 (by omega)).2, List.drop_of_length_le (by omega)]
    simp only [vgo]
    rw [if_neg (by omega)]
  rw [hv]
  refine c_sreg rfl ?_
  refine s1 (r_asi rfl) ?_
  refine s1 (r_asi rfl) ?_
  refine s1 (r_asi rfl) ?_
  refine wn ?_
  exact c_ret (ret3 rfl rfl rfl rfl ⟨rfl, mm.chg⟩)
end Go.Proofs.Ytgdbbaggkoillaa

