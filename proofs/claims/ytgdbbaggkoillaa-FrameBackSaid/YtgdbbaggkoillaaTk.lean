/- What is taken from bytes: numbers; plain. -/
import Derived.Test.YtgdbbaggkoillaaEv
namespace Go.Proofs.Ytgdbbaggkoillaa
open K
def vgo : List UInt8 → Nat → Nat → Nat × Nat × Int
  | [], i, _ => if 10 ≤ i then (0, 0, 3) else (0, 0, 2)
  | c :: l, i, m =>
    if 10 ≤ i then (0, 0, 3)
    else if 128 ≤ c.toNat then vgo l (i + 1) (m + c.toNat % 128 * 128 ^ i)
    else if (c.toNat = 0 ∧ 0 < i) ∨ (i = 9 ∧ 1 < c.toNat) then (0, 0, 3)
    else (m + c.toNat * 128 ^ i, i + 1, 0)
def vtake (b : List UInt8) : Nat × Nat × Int := vgo b 0 0

theorem vgo10 (l : List UInt8) (m : Nat) : vgo l 10 m = (0, 0, 3) := by cases l <;> rfl
theorem vput_low (n : Nat) (h : n < 128) : vput n = [UInt8.ofNat n] := by rw [vput, if_pos h]
theorem vput_more (n : Nat) (h : 128 ≤ n) : vput n = UInt8.ofNat (n % 128 + 128) :: vput (n / 128) := by rw [vput, if_neg (by omega)]
theorem toNat_low (n : Nat) (h : n < 128) : (UInt8.ofNat n).toNat = n := by simp; omega
theorem toNat_more (n : Nat) : (UInt8.ofNat (n % 128 + 128)).toNat = n % 128 + 128 := by simp; omega
theorem toNat_more_of (c : UInt8) (h : 128 ≤ c.toNat) : c.toNat = (UInt8.ofNat (c.toNat % 128 + 128)).toNat := by
  have := c.toNat_lt
  rw [toNat_more]; omega
theorem pow_step (q i : Nat) : q % 128 * 128 ^ i + q / 128 * 128 ^ (i + 1) = q * 128 ^ i := by
  rw [Nat.pow_succ, Nat.mul_comm (128 ^ i) 128, ← Nat.mul_assoc, ← Nat.add_mul]
  congr 1
  omega

theorem vgo_put (rest : List UInt8) : ∀ (n i m : Nat), i + (vput n).length ≤ 9 → (i = 0 ∨ n ≠ 0) → vgo (vput n ++ rest) i m = (m + n * 128 ^ i, i + (vput n).length, 0) := by
  intro n
  induction n using Nat.strongRecOn with
  | _ n ih =>
    intro i m hl h0
    by_cases hn : n < 128
    · rw [vput_low n hn] at hl ⊢
      simp only [List.length_singleton] at hl
      simp only [List.cons_append, List.nil_append, vgo, toNat_low n hn, List.length_singleton]
      rw [if_neg (by omega), if_neg (by omega), if_neg (by omega)]
    · rw [vput_more n (by omega)] at hl ⊢
      simp only [List.length_cons] at hl
      simp only [List.cons_append, vgo, toNat_more, List.length_cons]
      rw [if_neg (by omega), if_pos (by omega), ih (n / 128) (by omega) (i + 1) _ (by omega) (.inr (by omega))]
      have := pow_step n i
      rw [show (n % 128 + 128) % 128 = n % 128 from by omega]
      refine Prod.ext ?_ (Prod.ext ?_ rfl)
      · show m + n % 128 * 128 ^ i + n / 128 * 128 ^ (i + 1) = m + n * 128 ^ i
        omega
      · show i + 1 + (vput (n / 128)).length = i + ((vput (n / 128)).length + 1)
        omega
theorem vtake_put (n : Nat) (h : (vput n).length ≤ 9) (rest : List UInt8) : vtake (vput n ++ rest) = (n, (vput n).length, 0) := by
  have := vgo_put rest n 0 0 (by omega) (.inl rfl)
  simpa [vtake] using this
theorem vgo_short : ∀ (n i m j : Nat), j < (vput n).length → i + (vput n).length ≤ 10 → vgo ((vput n).take j) i m = (0, 0, 2) := by
  intro n
  induction n using Nat.strongRecOn with
  | _ n ih =>
    intro i m j hj hl
    cases j with
    | zero =>
      rw [List.take_zero]
      show (if 10 ≤ i then _ else _) = _
      rw [if_neg (by omega)]
    | succ j =>
      by_cases hn : n < 128
      · rw [vput_low n hn] at hj; simp at hj
      · rw [vput_more n (by omega)] at hj hl ⊢
        simp only [List.length_cons] at hj hl
        simp only [List.take_succ_cons, vgo, toNat_more]
        rw [if_neg (by omega), if_pos (by omega)]
        exact ih (n / 128) (by omega) (i + 1) _ j (by omega) (by omega)
theorem vtake_short (n j : Nat) (hj : j < (vput n).length) (hl : (vput n).length ≤ 10) : vtake ((vput n).take j) = (0, 0, 2) := vgo_short n 0 0 j hj (by omega)
theorem vgo_ok : ∀ (l : List UInt8) (i m n k : Nat), vgo l i m = (n, k, 0) → ∃ q, n = m + q * 128 ^ i ∧ k = i + (vput q).length ∧ l.take (vput q).length = vput q ∧ (vput q).length ≤ l.length ∧ (i = 0 ∨ q ≠ 0) ∧ k ≤ 10
  | [], i, m, n, k, h => by
    simp only [vgo] at h
    split at h <;> (simp at h)
  | c :: l, i, m, n, k, h => by
    simp only [vgo] at h
    have hc := c.toNat_lt
    by_cases h1 : 10 ≤ i
    · rw [if_pos h1] at h; simp at h
    rw [if_neg h1] at h
    by_cases h2 : 128 ≤ c.toNat
    · rw [if_pos h2] at h
      obtain ⟨q, e1, e2, e3, e4, e5, e6⟩ := vgo_ok l (i + 1) _ n k h
      have hq : q ≠ 0 := e5.resolve_left (by omega)
      have hm : 128 ≤ c.toNat % 128 + 128 * q := by omega
      have hd : (c.toNat % 128 + 128 * q) / 128 = q := by omega
      have hr : (c.toNat % 128 + 128 * q) % 128 = c.toNat % 128 := by omega
      have hv : vput (c.toNat % 128 + 128 * q) = c :: vput q := by
        rw [vput_more _ hm, hd, hr]
        congr 1
        apply UInt8.toNat_inj.1
        exact (toNat_more_of c h2).symm
      refine ⟨c.toNat % 128 + 128 * q, ?_, ?_, ?_, ?_, .inr (by omega), e6⟩
      · have := pow_step (c.toNat % 128 + 128 * q) i
        rw [hd, hr] at this
        rw [← this]; omega
      · rw [hv, List.length_cons]; omega
      · rw [hv, List.length_cons, List.take_succ_cons, e3]
      · rw [hv, List.length_cons, List.length_cons]; omega
    · rw [if_neg h2] at h
      split at h
      · simp at h
      · rename_i h3
        simp only [Prod.mk.injEq, and_true] at h
        have hv : vput c.toNat = [c] := by
          rw [vput_low _ (by omega)]
          congr 1
          apply UInt8.toNat_inj.1
          simp
        refine ⟨c.toNat, h.1.symm, ?_, ?_, ?_, by omega, by omega⟩
        · rw [hv]; exact h.2.symm
        · rw [hv]; rfl
        · rw [hv]; simp
theorem vtake_ok {b : List UInt8} {n k : Nat} (h : vtake b = (n, k, 0)) : b.take k = vput n ∧ k = (vput n).length ∧ k ≤ b.length ∧ k ≤ 10 := by
  obtain ⟨q, e1, e2, e3, e4, _, e6⟩ := vgo_ok b 0 0 n k h
  have hq : n = q := by simpa using e1
  subst hq
  have hk : k = (vput n).length := by omega
  exact ⟨by rw [hk]; exact e3, hk, by omega, e6⟩
theorem vtake_err {b : List UInt8} : ((vtake b).2.2 = 0 ∧ 1 ≤ (vtake b).2.1 ∧ (vtake b).2.1 ≤ b.length) ∨ (vtake b).2.2 = 2 ∨ (vtake b).2.2 = 3 := by
  generalize h : vtake b = t
  obtain ⟨n, k, x⟩ := t
  have key : ∀ (l : List UInt8) (i m : Nat), (vgo l i m).2.2 = 0 ∨ (vgo l i m).2.2 = 2 ∨ (vgo l i m).2.2 = 3 := by
    intro l
    induction l with
    | nil => intro i m; simp only [vgo]; split <;> simp
    | cons c l ih =>
      intro i m
      simp only [vgo]
      split
      · simp
      · split
        · exact ih _ _
        · split <;> simp
  rcases key b 0 0 with hk | hk
  · left
    have h2 : x = 0 := by have := hk; rw [show vgo b 0 0 = (n, k, x) from h] at this; exact this
    subst h2
    obtain ⟨_, e2, e3, _⟩ := vtake_ok h
    have := vput_pos n
    exact ⟨rfl, by show 1 ≤ k; omega, e3⟩
  · right
    rw [show vgo b 0 0 = (n, k, x) from h] at hk
    exact hk

/-! ### the walk's bits -/
theorem u8_clear (c : UInt8) : bitv .andNot .u8 c.toNat 128 = ((c.toNat % 128 : Nat) : Int) := by
  have key : ∀ y : Fin 256, bitv .andNot .u8 ((y.val : Nat) : Int) 128 = ((y.val % 128 : Nat) : Int) := by decide +kernel
  exact key ⟨c.toNat, c.toNat_lt⟩
theorem u8_top (c : UInt8) : (bitv .and .u8 c.toNat 128 ≠ 0) ↔ 128 ≤ c.toNat := by
  have key : ∀ y : Fin 256, (bitv .and .u8 ((y.val : Nat) : Int) 128 ≠ 0) ↔ 128 ≤ y.val := by decide +kernel
  exact key ⟨c.toNat, c.toNat_lt⟩
theorem or_shift (m x i : Nat) (hm : m < 128 ^ i) (hi : i ≤ 9) : bitv .or .u64 (m : Int) (IntKind.u64.wrap ((x : Int) * 2 ^ (7 * i))) = ((m + x * 128 ^ i % 2 ^ 64 : Nat) : Int) := by
  have e1 : (128 : Nat) ^ i = 2 ^ (7 * i) := by rw [Nat.pow_mul]
  rw [e1] at hm ⊢
  have e2 : IntKind.u64.wrap ((x : Int) * 2 ^ (7 * i)) = ((x * 2 ^ (7 * i) % 2 ^ 64 : Nat) : Int) := by
    simp only [IntKind.wrap, IntKind.bits, IntKind.signed]
    simp
  rw [e2]
  have e3 : x * 2 ^ (7 * i) % 2 ^ 64 = 2 ^ (7 * i) * (x % 2 ^ (64 - 7 * i)) := by
    rw [Nat.mul_comm x, show (2 : Nat) ^ 64 = 2 ^ (7 * i) * 2 ^ (64 - 7 * i) from by rw [← Nat.pow_add]; congr 1; omega, Nat.mul_mod_mul_left]
  rw [e3]
  have hp : 2 ^ (7 * i) ≤ 2 ^ 63 := Nat.pow_le_pow_right (by decide) (by omega)
  have hlt : 2 ^ (7 * i) * (x % 2 ^ (64 - 7 * i)) + m < 2 ^ 64 := by
    have h1 : x % 2 ^ (64 - 7 * i) + 1 ≤ 2 ^ (64 - 7 * i) := Nat.mod_lt _ (Nat.two_pow_pos _)
    have h2 : 2 ^ (7 * i) * (x % 2 ^ (64 - 7 * i) + 1) ≤ 2 ^ (7 * i) * 2 ^ (64 - 7 * i) := Nat.mul_le_mul_left _ h1
    rw [← Nat.pow_add, show 7 * i + (64 - 7 * i) = 64 from by omega, Nat.mul_add] at h2
    omega
  have h4 : (BitVec.ofInt 64 (m : Int) ||| BitVec.ofInt 64 ((2 ^ (7 * i) * (x % 2 ^ (64 - 7 * i)) : Nat) : Int)).toNat = 2 ^ (7 * i) * (x % 2 ^ (64 - 7 * i)) + m := by
    rw [BitVec.toNat_or, BitVec.toNat_ofInt, BitVec.toNat_ofInt]
    have g1 : ((m : Int) % (2 ^ 64 : Nat)).toNat = m := by omega
    have g2 : (((2 ^ (7 * i) * (x % 2 ^ (64 - 7 * i)) : Nat) : Int) % (2 ^ 64 : Nat)).toNat = 2 ^ (7 * i) * (x % 2 ^ (64 - 7 * i)) := by omega
    rw [g1, g2, Nat.or_comm, Nat.two_pow_add_eq_or_of_lt hm]
  unfold bitv
  show IntKind.u64.wrap ((BitVec.ofInt 64 (m : Int) ||| BitVec.ofInt 64 ((2 ^ (7 * i) * (x % 2 ^ (64 - 7 * i)) : Nat) : Int)).toNat : Int) = _
  rw [h4]
  generalize 2 ^ (7 * i) * (x % 2 ^ (64 - 7 * i)) = A at *
  rw [wu64 (by omega) (by omega)]
  congr 1
  omega
end Go.Proofs.Ytgdbbaggkoillaa
