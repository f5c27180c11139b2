/- Bits turned in bytes, plain. -/
import Derived.Test.YtgdbbaggkoillaaCr
namespace Go.Proofs.Ytgdbbaggkoillaa
open K
def bitAt (s : List UInt8) (q : Nat) : Bool := (s.getD (q / 8) 0).toNat.testBit (q % 8)
theorem bits_get (c : UInt8) (j : Nat) (h : j < 8) : (bitsOf c)[j]? = some (c.toNat.testBit j) := by
  unfold bitsOf
  rw [List.getElem?_map, List.getElem?_range h]; rfl
theorem bitsL_get : ∀ (s : List UInt8) (q : Nat), q < 8 * s.length → (bitsL s)[q]? = some (bitAt s q)
  | [], q, h => by simp at h
  | c :: s, q, h => by
    rw [bitsL_cons]
    by_cases hq : q < 8
    · rw [List.getElem?_append_left (by rw [bitsOf_length]; exact hq), bits_get c q hq]
      unfold bitAt
      rw [Nat.div_eq_of_lt hq, Nat.mod_eq_of_lt hq]; rfl
    · rw [List.getElem?_append_right (by rw [bitsOf_length]; omega), bitsOf_length, bitsL_get s (q - 8) (by rw [List.length_cons] at h; omega)]
      unfold bitAt
      have h1 : q / 8 = (q - 8) / 8 + 1 := by omega
      have h2 : q % 8 = (q - 8) % 8 := by omega
      rw [h1, h2]; rfl
def flipB (s : List UInt8) (p : Nat) : List UInt8 := s.set (p / 8) (s.getD (p / 8) 0 ^^^ UInt8.ofNat (2 ^ (p % 8)))
theorem flipB_length (s : List UInt8) (p : Nat) : (flipB s p).length = s.length := List.length_set ..
theorem pow8 (r : Nat) (h : r < 8) : (UInt8.ofNat (2 ^ r)).toNat = 2 ^ r := by
  match r, h with
  | 0, _ => rfl | 1, _ => rfl | 2, _ => rfl | 3, _ => rfl | 4, _ => rfl | 5, _ => rfl | 6, _ => rfl | 7, _ => rfl
theorem flipB_at (s : List UInt8) (p q : Nat) (hp : p < 8 * s.length) : bitAt (flipB s p) q = (bitAt s q ^^ decide (q = p)) := by
  unfold bitAt flipB
  have hpl : p / 8 < s.length := by omega
  by_cases hd : q / 8 = p / 8
  · rw [hd]
    have h1 : (s.set (p / 8) (s.getD (p / 8) 0 ^^^ UInt8.ofNat (2 ^ (p % 8)))).getD (p / 8) 0 = s.getD (p / 8) 0 ^^^ UInt8.ofNat (2 ^ (p % 8)) := by
      simp [List.getD, hpl]
    rw [h1, UInt8.toNat_xor, Nat.testBit_xor, pow8 _ (Nat.mod_lt _ (by decide)), Nat.testBit_two_pow]
    congr 1
    exact decide_eq_decide.2 (by omega)
  · have h1 : (s.set (p / 8) (s.getD (p / 8) 0 ^^^ UInt8.ofNat (2 ^ (p % 8)))).getD (q / 8) 0 = s.getD (q / 8) 0 := by
      simp [List.getD, List.getElem?_set_ne (Ne.symm hd)]
    rw [h1]
    have h2 : decide (q = p) = false := decide_eq_false (fun h => hd (by rw [h]))
    rw [h2, Bool.xor_false]
/-- s is s0 with the mask's bits below i turned from place k on. -/
def Turned (s0 : List UInt8) (mask : Nat) (k i : Nat) (s : List UInt8) : Prop := s.length = s0.length ∧ ∀ q, bitAt s q = (bitAt s0 q ^^ (decide (k ≤ q ∧ q < k + i) && mask.testBit (q - k)))
theorem turned0 (s0 : List UInt8) (mask k : Nat) : Turned s0 mask k 0 s0 := ⟨rfl, fun q => by
  have : decide (k ≤ q ∧ q < k + 0) = false := decide_eq_false (by omega)
  rw [this]; simp⟩
theorem turned_flip {s0 s : List UInt8} {mask k i : Nat} (h : Turned s0 mask k i s) (hb : mask.testBit i = true) (hk : k + i < 8 * s0.length) : Turned s0 mask k (i + 1) (flipB s (k + i)) := by
  refine ⟨by rw [flipB_length]; exact h.1, fun q => ?_⟩
  rw [flipB_at s (k + i) q (by rw [h.1]; exact hk), h.2, Bool.xor_assoc]
  congr 1
  by_cases hq : q = k + i
  · subst hq
    have h1 : decide (k ≤ k + i ∧ k + i < k + i) = false := decide_eq_false (by omega)
    have h2 : decide (k ≤ k + i ∧ k + i < k + (i + 1)) = true := decide_eq_true (by omega)
    rw [h1, h2, Nat.add_sub_cancel_left, hb]; simp
  · have h1 : decide (q = k + i) = false := decide_eq_false hq
    have h2 : decide (k ≤ q ∧ q < k + (i + 1)) = decide (k ≤ q ∧ q < k + i) := decide_eq_decide.2 (by omega)
    rw [h1, h2, Bool.xor_false]
theorem turned_same {s0 s : List UInt8} {mask k i : Nat} (h : Turned s0 mask k i s) (hb : mask.testBit i = false) : Turned s0 mask k (i + 1) s := by
  refine ⟨h.1, fun q => ?_⟩
  rw [h.2]
  congr 1
  by_cases hq : q = k + i
  · subst hq
    rw [Nat.add_sub_cancel_left, hb, Bool.and_false, Bool.and_false]
  · have h2 : decide (k ≤ q ∧ q < k + (i + 1)) = decide (k ≤ q ∧ q < k + i) := decide_eq_decide.2 (by omega)
    rw [h2]
theorem turned_xor {s0 s : List UInt8} {mask k i : Nat} (h : Turned s0 mask k i s) (hk : k + i ≤ 8 * s0.length) :
    xorB (bitsL s) (bitsL s0) = List.replicate k false ++ (List.range i).map (fun j => mask.testBit j) ++ List.replicate (8 * s0.length - k - i) false := by
  apply List.ext_getElem?
  intro q
  have hl : (bitsL s).length = 8 * s0.length := by rw [bitsL_length, h.1]
  have hl0 : (bitsL s0).length = 8 * s0.length := bitsL_length s0
  by_cases hq : q < 8 * s0.length
  · have h1 : (xorB (bitsL s) (bitsL s0))[q]? = some (bitAt s q ^^ bitAt s0 q) := by
      unfold xorB
      rw [List.getElem?_zipWith, bitsL_get s q (by rw [h.1]; exact hq), bitsL_get s0 q hq]
    have h2 : (bitAt s q ^^ bitAt s0 q) = (decide (k ≤ q ∧ q < k + i) && mask.testBit (q - k)) := by
      rw [h.2]
      cases bitAt s0 q <;> simp
    rw [h1, h2]
    by_cases a1 : q < k
    · rw [List.append_assoc, List.getElem?_append_left (by rw [List.length_replicate]; exact a1), List.getElem?_replicate, if_pos a1]
      have : decide (k ≤ q ∧ q < k + i) = false := decide_eq_false (by omega)
      rw [this]; rfl
    · by_cases a2 : q < k + i
      · rw [List.getElem?_append_left (by rw [List.length_append, List.length_replicate, List.length_map, List.length_range]; exact a2), List.getElem?_append_right (by rw [List.length_replicate]; omega), List.length_replicate, List.getElem?_map, List.getElem?_range (by omega)]
        have : decide (k ≤ q ∧ q < k + i) = true := decide_eq_true (by omega)
        rw [this]; rfl
      · rw [List.getElem?_append_right (by rw [List.length_append, List.length_replicate, List.length_map, List.length_range]; omega), List.length_append, List.length_replicate, List.length_map, List.length_range, List.getElem?_replicate, if_pos (by omega)]
        have : decide (k ≤ q ∧ q < k + i) = false := decide_eq_false (by omega)
        rw [this]; rfl
  · rw [List.getElem?_eq_none, List.getElem?_eq_none]
    · rw [List.length_append, List.length_append, List.length_replicate, List.length_replicate, List.length_map, List.length_range]; omega
    · unfold xorB; rw [List.length_zipWith, hl, hl0]; omega
/-- Turned, and unlike: it does not open. -/
theorem turned_open {b s : List UInt8} {mask k i : Nat} (h : Turned (sealL b) mask k i s) (hk : k + i ≤ 8 * (sealL b).length) (hi : i ≤ 32) (hne : s ≠ sealL b) : openL s = none :=
  open_burst b s h.1 k _ _ (by rw [List.length_map, List.length_range]; exact hi) (turned_xor h hk) hne
/-! in the model's words -/
theorem bx8 (x : UInt8) (r : Nat) (h : r < 8) : Value.int .u8 (bitv .xor .u8 ((x.toNat : Nat) : Int) ((2 ^ r : Nat) : Int)) = u8 (x ^^^ UInt8.ofNat (2 ^ r)) := by
  have h1 := x.toNat_lt
  have h2 : 2 ^ r < 256 := by
    have := Nat.pow_lt_pow_right (a := 2) (by decide) h
    omega
  have h3 : bitv .xor .u8 ((x.toNat : Nat) : Int) ((2 ^ r : Nat) : Int) = ((x.toNat ^^^ 2 ^ r : Nat) : Int) := by
    unfold bitv
    simp only
    rw [BitVec.toNat_xor, BitVec.ofInt_natCast, BitVec.ofInt_natCast, BitVec.toNat_ofNat, BitVec.toNat_ofNat, Nat.mod_eq_of_lt (show x.toNat < 2 ^ IntKind.u8.bits from h1), Nat.mod_eq_of_lt (show 2 ^ r < 2 ^ IntKind.u8.bits from h2)]
    have h4 : x.toNat ^^^ 2 ^ r < 2 ^ 8 := Nat.xor_lt_two_pow h1 h2
    exact wu8 (by omega) (by omega)
  unfold u8
  rw [h3, UInt8.toNat_xor, pow8 r h]
theorem shl8 (r : Nat) (h : r < 8) : IntKind.u8.wrap (1 * 2 ^ (min (((r : Nat) : Int)).toNat IntKind.u8.bits)) = ((2 ^ r : Nat) : Int) := by
  have h1 : min (((r : Nat) : Int)).toNat IntKind.u8.bits = r := by show min (((r : Nat) : Int)).toNat 8 = r; omega
  have h2 : 2 ^ r < 256 := by
    have := Nat.pow_lt_pow_right (a := 2) (by decide) h
    omega
  rw [h1, Int.one_mul]
  have h3 : (2 : Int) ^ r = ((2 ^ r : Nat) : Int) := by push_cast; rfl
  rw [h3]
  exact wu8 (Int.natCast_nonneg _) (Int.ofNat_le.2 (Nat.le_of_lt_succ h2))
theorem shr32 (m i : Nat) (hi : i < 32) : ((m : Nat) : Int).fdiv (2 ^ (min (((i : Nat) : Int)).toNat IntKind.u32.bits)) = ((m / 2 ^ i : Nat) : Int) := by
  have h1 : min (((i : Nat) : Int)).toNat IntKind.u32.bits = i := by show min (((i : Nat) : Int)).toNat 32 = i; omega
  rw [h1, Int.fdiv_eq_ediv_of_nonneg _ (Int.pow_nonneg (by decide))]
  push_cast; rfl
theorem and1 (m : Nat) (h : m < 2 ^ 32) : bitv .and .u32 ((m : Nat) : Int) 1 = ((m % 2 : Nat) : Int) := by
  have h1 : bitv .and .u32 ((m : Nat) : Int) ((1 : Nat) : Int) = ((m &&& 1 : Nat) : Int) := by
    unfold bitv
    simp only
    rw [BitVec.toNat_and, BitVec.ofInt_natCast, BitVec.ofInt_natCast, BitVec.toNat_ofNat, BitVec.toNat_ofNat, Nat.mod_eq_of_lt (show m < 2 ^ IntKind.u32.bits from h), Nat.mod_eq_of_lt (show 1 < 2 ^ IntKind.u32.bits by decide)]
    have h4 : m &&& 1 ≤ 1 := Nat.and_le_right
    exact wu32 (by omega) (by omega)
  rw [Nat.and_one_is_mod] at h1
  exact h1
theorem div_bit (m i : Nat) : m / 2 ^ i % 2 = 1 ↔ m.testBit i = true := by rw [Nat.testBit_eq_decide_div_mod_eq]; simp
end Go.Proofs.Ytgdbbaggkoillaa
