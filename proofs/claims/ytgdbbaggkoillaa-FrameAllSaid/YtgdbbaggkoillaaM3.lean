/- What is taken from bytes: numbers; plain. -/
import Derived.Test.YtgdbbaggkoillaaM2
import Derived.Test.YtgdbbaggkoillaaProg
import Derived.KernelRfl
import Derived.Laws.RangeAny
namespace Go.Proofs.Ytgdbbaggkoillaa
open K
def vgo : List UInt8 → Nat → Nat → Nat × Nat × Int
  | [], i, _ => if 10 ≤ i then (0, 0, 3) else (0, 0, 2)
  | c :: l, i, m =>
    if 10 ≤ i then (0, 0, 3)
    else if 128 ≤ c.toNat then vgo l (i + 1) (m + c.toNat % 128 * 128 ^ i)
    else if (c.toNat = 0 ∧ 0 < i) ∨ (i = 9 ∧ 1 < c.toNat) then (0, 0, 3)
    else (m + c.toNat * 128 ^ i, i + 1, 0)
def vtake (b : List UInt8) : Nat × Nat × Int := vgo b 0 0

theorem vgo10 (l : List UInt8) (m : Nat) : vgo l 10 m = (0, 0, 3) := by cases l <;> rfl
theorem vput_low (n : Nat) (h : n < 128) : vput n = [UInt8.ofNat n] := by rw [vput, if_pos h]
theorem vput_more (n : Nat) (h : 128 ≤ n) : vput n = UInt8.ofNat (n % 128 + 128) :: vput (n / 128) := by rw [vput, if_neg (by omega)]
theorem toNat_low (n : Nat) (h : n < 128) : (UInt8.ofNat n).toNat = n := by simp; omega
theorem toNat_more (n : Nat) : (UInt8.ofNat (n % 128 + 128)).toNat = n % 128 + 128 := by simp; omega
theorem toNat_more_of (c : UInt8) (h : 128 ≤ c.toNat) : c.toNat = (UInt8.ofNat (c.toNat % 128 + 128)).toNat := by
  have := c.toNat_lt
  rw [toNat_more]; omega
theorem pow_step (q i : Nat) : q % 128 * 128 ^ i + q / 128 * 128 ^ (i + 1) = q * 128 ^ i := by
  rw [Nat.pow_succ, Nat.mul_comm (128 ^ i) 128, ← Nat.mul_assoc, ← Nat.add_mul]
  congr 1
  omega

theorem vgo_put (rest : List UInt8) : ∀ (n i m : Nat), i + (vput n).length ≤ 9 → (i = 0 ∨ n ≠ 0) → vgo (vput n ++ rest) i m = (m + n * 128 ^ i, i + (vput n).length, 0) := by
  intro n
  induction n using Nat.strongRecOn with
  | _ n ih =>
    intro i m hl h0
    by_cases hn : n < 128
    · rw [vput_low n hn] at hl ⊢
      simp only [List.length_singleton] at hl
      simp only [List.cons_append, List.nil_append, vgo, toNat_low n hn, List.length_singleton]
      rw [if_neg (by omega), if_neg (by omega), if_neg (by omega)]
    · rw [vput_more n (by omega)] at hl ⊢
      simp only [List.length_cons] at hl
      simp only [List.cons_append, vgo, toNat_more, List.length_cons]
      rw [if_neg (by omega), if_pos (by omega), ih (n / 128) (by omega) (i + 1) _ (by omega) (.inr (by omega))]
      have := pow_step n i
      rw [show (n % 128 + 128) % 128 = n % 128 from by omega]
      refine Prod.ext ?_ (Prod.ext ?_ rfl)
      · show m + n % 128 * 128 ^ i + n / 128 * 128 ^ (i + 1) = m + n * 128 ^ i
        omega
      · show i + 1 + (vput (n / 128)).length = i + ((vput (n / 128)).length + 1)
        omega
theorem vtake_put (n : Nat) (h : (vput n).length ≤ 9) (rest : List UInt8) : vtake (vput n ++ rest) = (n, (vput n).length, 0) := by
  have := vgo_put rest n 0 0 (by omega) (.inl rfl)
  simpa [vtake] using this
theorem vgo_short : ∀ (n i m j : Nat), j < (vput n).length → i + (vput n).length ≤ 10 → vgo ((vput n).take j) i m = (0, 0, 2) := by
  intro n
  induction n using Nat.strongRecOn with
  | _ n ih =>
    intro i m j hj hl
    cases j with
    | zero =>
      rw [List.take_zero]
      show (if 10 ≤ i then _ else _) = _
      rw [if_neg (by omega)]
    | succ j =>
      by_cases hn : n < 128
      · rw [vput_low n hn] at hj; simp at hj
      · rw [vput_more n (by omega)] at hj hl ⊢
        simp only [List.length_cons] at hj hl
        simp only [List.take_succ_cons, vgo, toNat_more]
        rw [if_neg (by omega), if_pos (by omega)]
        exact ih (n / 128) (by omega) (i + 1) _ j (by omega) (by omega)
theorem vtake_short (n j : Nat) (hj : j < (vput n).length) (hl : (vput n).length ≤ 10) : vtake ((vput n).take j) = (0, 0, 2) := vgo_short n 0 0 j hj (by omega)
theorem vgo_ok : ∀ (l : List UInt8) (i m n k : Nat), vgo l i m = (n, k, 0) → ∃ q, n = m + q * 128 ^ i ∧ k = i + (vput q).length ∧ l.take (vput q).length = vput q ∧ (vput q).length ≤ l.length ∧ (i = 0 ∨ q ≠ 0) ∧ k ≤ 10
  | [], i, m, n, k, h => by
    simp only [vgo] at h
    split at h <;> (simp at h)
  | c :: l, i, m, n, k, h => by
    simp only [vgo] at h
    have hc := c.toNat_lt
    by_cases h1 : 10 ≤ i
    · rw [if_pos h1] at h; simp at h
    rw [if_neg h1] at h
    by_cases h2 : 128 ≤ c.toNat
    · rw [if_pos h2] at h
      obtain ⟨q, e1, e2, e3, e4, e5, e6⟩ := vgo_ok l (i + 1) _ n k h
      have hq : q ≠ 0 := e5.resolve_left (by omega)
      have hm : 128 ≤ c.toNat % 128 + 128 * q := by omega
      have hd : (c.toNat % 128 + 128 * q) / 128 = q := by omega
      have hr : (c.toNat % 128 + 128 * q) % 128 = c.toNat % 128 := by omega
      have hv : vput (c.toNat % 128 + 128 * q) = c :: vput q := by
        rw [vput_more _ hm, hd, hr]
        congr 1
        apply UInt8.toNat_inj.1
        exact (toNat_more_of c h2).symm
      refine ⟨c.toNat % 128 + 128 * q, ?_, ?_, ?_, ?_, .inr (by omega), e6⟩
      · have := pow_step (c.toNat % 128 + 128 * q) i
        rw [hd, hr] at this
        rw [← this]; omega
      · rw [hv, List.length_cons]; omega
      · rw [hv, List.length_cons, List.take_succ_cons, e3]
      · rw [hv, List.length_cons, List.length_cons]; omega
    · rw [if_neg h2] at h
      split at h
      · simp at h
      · rename_i h3
        simp only [Prod.mk.injEq, and_true] at h
        have hv : vput c.toNat = [c] := by
          rw [vput_low _ (by omega)]
          congr 1
          apply UInt8.toNat_inj.1
          simp
        refine ⟨c.toNat, h.1.symm, ?_, ?_, ?_, by omega, by omega⟩
        · rw [hv]; exact h.2.symm
        · rw [hv]; rfl
        · rw [hv]; simp
theorem vtake_ok {b : List UInt8} {n k : Nat} (h : vtake b = (n, k, 0)) : b.take k = vput n ∧ k = (vput n).length ∧ k ≤ b.length ∧ k ≤ 10 := by
  obtain ⟨q, e1, e2, e3, e4, _, e6⟩ := vgo_ok b 0 0 n k h
  have hq : n = q := by simpa using e1
  subst hq
  have hk : k = (vput n).length := by omega
  exact ⟨by rw [hk]; exact e3, hk, by omega, e6⟩
theorem vtake_err {b : List UInt8} : ((vtake b).2.2 = 0 ∧ 1 ≤ (vtake b).2.1 ∧ (vtake b).2.1 ≤ b.length) ∨ (vtake b).2.2 = 2 ∨ (vtake b).2.2 = 3 := by
  generalize h : vtake b = t
  obtain ⟨n, k, x⟩ := t
  have key : ∀ (l : List UInt8) (i m : Nat), (vgo l i m).2.2 = 0 ∨ (vgo l i m).2.2 = 2 ∨ (vgo l i m).2.2 = 3 := by
    intro l
    induction l with
    | nil => intro i m; simp only [vgo]; split <;> simp
    | cons c l ih =>
      intro i m
      simp only [vgo]
      split
      · simp
      · split
        · exact ih _ _
        · split <;> simp
  rcases key b 0 0 with hk | hk
  · left
    have h2 : x = 0 := by have := hk; rw [show vgo b 0 0 = (n, k, x) from h] at this; exact this
    subst h2
    obtain ⟨_, e2, e3, _⟩ := vtake_ok h
    have := vput_pos n
    exact ⟨rfl, by show 1 ≤ k; omega, e3⟩
  · right
    rw [show vgo b 0 0 = (n, k, x) from h] at hk
    exact hk

/-! ### the walk's bits -/
theorem u8_clear (c : UInt8) : bitv .andNot .u8 c.toNat 128 = ((c.toNat % 128 : Nat) : Int) := by
  have key : ∀ y : Fin 256, bitv .andNot .u8 ((y.val : Nat) : Int) 128 = ((y.val % 128 : Nat) : Int) := by decide +kernel
  exact key ⟨c.toNat, c.toNat_lt⟩
theorem u8_top (c : UInt8) : (bitv .and .u8 c.toNat 128 ≠ 0) ↔ 128 ≤ c.toNat := by
  have key : ∀ y : Fin 256, (bitv .and .u8 ((y.val : Nat) : Int) 128 ≠ 0) ↔ 128 ≤ y.val := by decide +kernel
  exact key ⟨c.toNat, c.toNat_lt⟩
theorem or_shift (m x i : Nat) (hm : m < 128 ^ i) (hi : i ≤ 9) : bitv .or .u64 (m : Int) (IntKind.u64.wrap ((x : Int) * 2 ^ (7 * i))) = ((m + x * 128 ^ i % 2 ^ 64 : Nat) : Int) := by
  have e1 : (128 : Nat) ^ i = 2 ^ (7 * i) := by rw [Nat.pow_mul]
  rw [e1] at hm ⊢
  have e2 : IntKind.u64.wrap ((x : Int) * 2 ^ (7 * i)) = ((x * 2 ^ (7 * i) % 2 ^ 64 : Nat) : Int) := by
    simp only [IntKind.wrap, IntKind.bits, IntKind.signed]
    simp
  rw [e2]
  have e3 : x * 2 ^ (7 * i) % 2 ^ 64 = 2 ^ (7 * i) * (x % 2 ^ (64 - 7 * i)) := by
    rw [Nat.mul_comm x, show (2 : Nat) ^ 64 = 2 ^ (7 * i) * 2 ^ (64 - 7 * i) from by rw [← Nat.pow_add]; congr 1; omega, Nat.mul_mod_mul_left]
  rw [e3]
  have hp : 2 ^ (7 * i) ≤ 2 ^ 63 := Nat.pow_le_pow_right (by decide) (by omega)
  have hlt : 2 ^ (7 * i) * (x % 2 ^ (64 - 7 * i)) + m < 2 ^ 64 := by
    have h1 : x % 2 ^ (64 - 7 * i) + 1 ≤ 2 ^ (64 - 7 * i) := Nat.mod_lt _ (Nat.two_pow_pos _)
    have h2 : 2 ^ (7 * i) * (x % 2 ^ (64 - 7 * i) + 1) ≤ 2 ^ (7 * i) * 2 ^ (64 - 7 * i) := Nat.mul_le_mul_left _ h1
    rw [← Nat.pow_add, show 7 * i + (64 - 7 * i) = 64 from by omega, Nat.mul_add] at h2
    omega
  have h4 : (BitVec.ofInt 64 (m : Int) ||| BitVec.ofInt 64 ((2 ^ (7 * i) * (x % 2 ^ (64 - 7 * i)) : Nat) : Int)).toNat = 2 ^ (7 * i) * (x % 2 ^ (64 - 7 * i)) + m := by
    rw [BitVec.toNat_or, BitVec.toNat_ofInt, BitVec.toNat_ofInt]
    have g1 : ((m : Int) % (2 ^ 64 : Nat)).toNat = m := by omega
    have g2 : (((2 ^ (7 * i) * (x % 2 ^ (64 - 7 * i)) : Nat) : Int) % (2 ^ 64 : Nat)).toNat = 2 ^ (7 * i) * (x % 2 ^ (64 - 7 * i)) := by omega
    rw [g1, g2, Nat.or_comm, Nat.two_pow_add_eq_or_of_lt hm]
  unfold bitv
  show IntKind.u64.wrap ((BitVec.ofInt 64 (m : Int) ||| BitVec.ofInt 64 ((2 ^ (7 * i) * (x % 2 ^ (64 - 7 * i)) : Nat) : Int)).toNat : Int) = _
  rw [h4]
  generalize 2 ^ (7 * i) * (x % 2 ^ (64 - 7 * i)) = A at *
  rw [wu64 (by omega) (by omega)]
  congr 1
  omega
end Go.Proofs.Ytgdbbaggkoillaa
/- Events and edits that may be, made of any: plain. -/
namespace Go.Proofs.Ytgdbbaggkoillaa
open K
theorem wu8i (b : UInt8) : IntKind.i64.wrap (b.toNat : Int) = b.toNat := wi (by omega) (by have := b.toNat_lt; omega)
def bsum (l : List UInt8) : Nat := (l.map (·.toNat)).sum
theorem bsum_le : ∀ l : List UInt8, bsum l ≤ 255 * l.length
  | [] => Nat.le_refl _
  | b :: l => by
    have := bsum_le l
    have := b.toNat_lt
    simp only [bsum, List.map_cons, List.sum_cons, List.length_cons] at *
    omega
theorem bsum_take (l : List UInt8) (i : Nat) (h : i < l.length) : bsum (l.take (i + 1)) = bsum (l.take i) + (l.getD i 0).toNat := by
  unfold bsum
  rw [List.take_add_one, List.map_append, List.sum_append]
  simp [h]
theorem bsum_take_le (l : List UInt8) (i : Nat) : bsum (l.take i) ≤ 255 * i := by
  have := bsum_le (l.take i)
  have : (l.take i).length ≤ i := by simp; omega
  omega
def keys3 : List (List UInt8) := [[97, 110, 110], [98, 111, 98], [99, 121]]
def vals4 : List (List UInt8) := [[49], [116, 119, 111], [0, 255], [116, 119, 101, 108, 118, 101, 32, 98, 121, 116, 101, 115]]
def fitK (n : Int) : Int := 1 + ((n.tmod 5) + 5).tmod 5
def fitR (n : Int) : Int := ((n.tmod 5) + 5).tmod 5
theorem tmod_in (n : Int) (k : Int) (h : 0 < k) : -k < n.tmod k ∧ n.tmod k < k := by
  have h1 := Int.tmod_lt_of_pos n h
  have h2 := Int.tmod_lt_of_pos (-n) h
  rw [Int.neg_tmod] at h2
  have h2 : -k < n.tmod k := by omega
  exact ⟨h2, h1⟩
theorem fitR_in (n : Int) : 0 ≤ fitR n ∧ fitR n < 5 := by
  unfold fitR
  have h := tmod_in n 5 (by decide)
  exact ⟨Int.tmod_nonneg _ (by omega), Int.tmod_lt_of_pos _ (by decide)⟩
theorem mask_in (n : Int) (k : Nat) (hk : k < 62) : 0 ≤ bitv .and .i64 n (2 ^ k - 1) ∧ bitv .and .i64 n (2 ^ k - 1) ≤ 2 ^ k - 1 := by
  have hb : (BitVec.ofInt 64 ((2 : Int) ^ k - 1)).toNat = 2 ^ k - 1 := by
    rw [BitVec.toNat_ofInt]
    have h1 : (2 : Int) ^ k - 1 = ((2 ^ k - 1 : Nat) : Int) := by
      have : 1 ≤ 2 ^ k := Nat.one_le_two_pow
      push_cast [this]; rfl
    rw [h1]
    have h2 : 2 ^ k < 2 ^ 62 := Nat.pow_lt_pow_right (by decide) hk
    omega
  have h3 : (BitVec.ofInt 64 n &&& BitVec.ofInt 64 ((2 : Int) ^ k - 1)).toNat ≤ 2 ^ k - 1 := by
    rw [BitVec.toNat_and, hb]
    exact Nat.and_le_right
  have h2 : 2 ^ k < 2 ^ 62 := Nat.pow_lt_pow_right (by decide) hk
  generalize hq : (BitVec.ofInt 64 n &&& BitVec.ofInt 64 ((2 : Int) ^ k - 1)).toNat = q at h3
  have h4 : bitv .and .i64 n (2 ^ k - 1) = IntKind.i64.wrap (q : Int) := by rw [← hq]; rfl
  rw [h4, wi (by omega) (by omega)]
  have h5 : 1 ≤ 2 ^ k := Nat.one_le_two_pow
  have h6 : ((2 ^ k : Nat) : Int) = (2 : Int) ^ k := by norm_cast
  omega
def m20 (n : Int) : Int := bitv .and .i64 n 1048575
def m24 (n : Int) : Int := bitv .and .i64 n 16777215
def m1 (n : Int) : Int := bitv .and .i64 n 1
theorem m20_in (n : Int) : 0 ≤ m20 n ∧ m20 n ≤ 1048575 := mask_in n 20 (by decide)
theorem m24_in (n : Int) : 0 ≤ m24 n ∧ m24 n ≤ 16777215 := mask_in n 24 (by decide)
theorem m1_in (n : Int) : 0 ≤ m1 n ∧ m1 n ≤ 1 := mask_in n 1 (by decide)
def fitEd (x : Ed) : Ed := ⟨fitK x.kind, keys3.getD (bsum x.key % 3) [], if 2 < fitK x.kind then m1 x.label else 0, if 2 < fitK x.kind then vals4.getD (bsum x.val % 4) [] else []⟩
def fitC (c : Clk) : Clk := ⟨m20 c.c0, m20 c.c1, m20 c.c2, m20 c.c3, m20 c.c4⟩
def fitEv (x : Ev) : Ev := ⟨fitR x.r, 1 + m20 x.n, (fitC x.c).set (fitR x.r).toNat (m20 x.n), 1 + m24 x.h, (fitEd x.ed).kind, (fitEd x.ed).key, (fitEd x.ed).label, (fitEd x.ed).val⟩
theorem keys3_ok : ∀ i, i < 3 → keyOk (keys3.getD i []) = true := by
  intro i hi
  match i, hi with
  | 0, _ => decide | 1, _ => decide | 2, _ => decide
theorem vals4_ok : ∀ i, i < 4 → 1 ≤ (vals4.getD i []).length ∧ (vals4.getD i []).length ≤ 12 := by
  intro i hi
  match i, hi with
  | 0, _ => decide | 1, _ => decide | 2, _ => decide | 3, _ => decide
theorem fitEd_ok (x : Ed) : tEdit (fitEd x) = 0 := by
  have hk : 1 ≤ fitK x.kind ∧ fitK x.kind ≤ 5 := by have := fitR_in x.kind; unfold fitR at this; unfold fitK; omega
  unfold tEdit
  rw [if_neg (show ¬ ((fitEd x).kind < 1 ∨ 5 < (fitEd x).kind) from by show ¬ (fitK x.kind < 1 ∨ 5 < fitK x.kind); omega)]
  have h1 : tKey (fitEd x).key = 0 := if_pos (keys3_ok _ (Nat.mod_lt _ (by decide)))
  rw [if_neg (by rw [h1]; decide)]
  by_cases h : 2 < fitK x.kind
  · rw [if_neg (show ¬ (fitEd x).kind ≤ 2 from by show ¬ fitK x.kind ≤ 2; omega)]
    have h2 : (fitEd x).label = m1 x.label := if_pos h
    have h3 : (fitEd x).val = vals4.getD (bsum x.val % 4) [] := if_pos h
    have h4 := m1_in x.label
    have h5 := vals4_ok (bsum x.val % 4) (Nat.mod_lt _ (by decide))
    have h6 : tLabel (fitEd x).label = 0 := if_pos (by rw [h2]; omega)
    rw [if_neg (by rw [h6]; decide)]
    exact if_pos (by rw [h3]; exact h5)
  · rw [if_pos (show (fitEd x).kind ≤ 2 from by show fitK x.kind ≤ 2; omega)]
    have h2 : (fitEd x).label = 0 := if_neg h
    have h3 : (fitEd x).val = [] := if_neg h
    unfold tBare
    rw [if_neg (by rw [h2]; decide), if_neg (by rw [h3]; decide)]
theorem fitC_get (c : Clk) (i : Nat) : (fitC c).get i = m20 (c.get i) := by
  unfold Clk.get fitC
  split <;> rfl
theorem fitEv_ok (x : Ev) : evMay (fitEv x) = 0 := by
  have hr := fitR_in x.r
  have hn := m20_in x.n
  have hh := m24_in x.h
  have h1 : evHead (fitEv x) = true := by
    simp only [evHead, Bool.and_eq_true, decide_eq_true_eq]
    refine ⟨⟨⟨⟨⟨⟨⟨show 0 ≤ fitR x.r by omega, show fitR x.r < 5 by omega⟩, show 1 ≤ 1 + m20 x.n by omega⟩, show 1 + m20 x.n ≤ 1048576 by omega⟩, ?_⟩, show 1 ≤ 1 + m24 x.h by omega⟩, show 1 + m24 x.h ≤ 16777216 by omega⟩, ?_⟩
    · show ((fitC x.c).set (fitR x.r).toNat (m20 x.n)).get (fitR x.r).toNat = 1 + m20 x.n - 1
      rw [Clk.get_set _ _ _ (by omega) (by omega), if_pos rfl]; omega
    · rw [Clk.all_iff]
      intro i hi
      show inEv (((fitC x.c).set (fitR x.r).toNat (m20 x.n)).get i) = true
      rw [Clk.get_set _ _ _ (by omega) hi]
      simp only [inEv, Bool.and_eq_true, decide_eq_true_eq]
      split
      · omega
      · rw [fitC_get]
        have := m20_in (x.c.get i)
        omega
  unfold evMay
  rw [if_pos h1]
  exact fitEd_ok x.ed
end Go.Proofs.Ytgdbbaggkoillaa
/- What event.Take takes: plain. -/
namespace Go.Proofs.Ytgdbbaggkoillaa
open K
def tOne (low high : Int) (s : List UInt8) (e : Int) : Int × List UInt8 × Int :=
  if e ≠ 0 then (low, s, e) else match s with
  | [] => (low, [], 2)
  | c :: s' => (c.toNat, s', if (c.toNat : Int) < low ∨ high < (c.toNat : Int) then 3 else 0)
def tNum (low high : Int) (s : List UInt8) (e : Int) : Int × List UInt8 × Int :=
  if e ≠ 0 ∨ (vtake s).2.2 ≠ 0 then (low, s, if e = 0 then (vtake s).2.2 else e)
  else (IntKind.i64.wrap (vtake s).1, s.drop (vtake s).2.1, if ((vtake s).1 : Int) < low ∨ high < ((vtake s).1 : Int) then 3 else 0)
def tWords (most : Int) (s : List UInt8) (e : Int) : List UInt8 × List UInt8 × Int :=
  if (tOne 1 most s e).2.2 ≠ 0 ∨ ((tOne 1 most s e).2.1.length : Int) < (tOne 1 most s e).1 then ([], (tOne 1 most s e).2.1, if (tOne 1 most s e).2.2 = 0 then 2 else (tOne 1 most s e).2.2)
  else ((tOne 1 most s e).2.1.take (tOne 1 most s e).1.toNat, (tOne 1 most s e).2.1.drop (tOne 1 most s e).1.toNat, (tOne 1 most s e).2.2)

theorem tOne_ok {low high : Int} {s : List UInt8} {e : Int} (h : (tOne low high s e).2.2 = 0) : e = 0 ∧ low ≤ (tOne low high s e).1 ∧ (tOne low high s e).1 ≤ high ∧ ∃ c, s = c :: (tOne low high s e).2.1 ∧ (tOne low high s e).1 = c.toNat := by
  unfold tOne at h ⊢
  by_cases he : e ≠ 0
  · rw [if_pos he] at h; exact absurd h he
  rw [if_neg he] at h ⊢
  cases s with
  | nil => cases h
  | cons c s =>
    simp only at h ⊢
    by_cases hq : (c.toNat : Int) < low ∨ high < (c.toNat : Int)
    · rw [if_pos hq] at h; cases h
    · exact ⟨by omega, by omega, by omega, c, rfl, rfl⟩
theorem tOne_le {low high : Int} {s : List UInt8} {e : Int} : (tOne low high s e).2.1.length ≤ s.length := by
  unfold tOne
  split
  · exact Nat.le_refl _
  · cases s with
    | nil => exact Nat.le_refl _
    | cons c s => simp
/-! ### what is taken -/
def tStep (r : Int) (i : Nat) (q : Clk × List UInt8 × Int) : Clk × List UInt8 × Int :=
  if (i : Int) ≠ r then (q.1.set i (tNum 0 1048576 q.2.1 q.2.2).1, (tNum 0 1048576 q.2.1 q.2.2).2.1, (tNum 0 1048576 q.2.1 q.2.2).2.2) else q
def tCtx (r : Int) (s : List UInt8) (e : Int) : Nat → Clk × List UInt8 × Int
  | 0 => (clk0, s, e)
  | i + 1 => tStep r i (tCtx r s e i)
def tKeyE (key : List UInt8) (e : Int) : Int := if keyOk key then e else if e = 0 then 3 else e
/-- The fields, what is left, and what is wrong. -/
def takeS (b : List UInt8) : Ev × List UInt8 × Int :=
  let k := tOne 1 5 b 0
  let r := tOne 0 4 k.2.1 k.2.2
  let n := tNum 1 1048576 r.2.1 r.2.2
  let c := tCtx r.1 n.2.1 n.2.2 5
  let h := tNum 1 16777216 c.2.1 c.2.2
  let y := tWords 8 h.2.1 h.2.2
  let e := tKeyE y.1 y.2.2
  if 2 < k.1 then
    let l := tOne 0 1 y.2.1 e
    let v := tWords 12 l.2.1 l.2.2
    (⟨r.1, n.1, c.1, h.1, k.1, y.1, l.1, v.1⟩, v.2.1, v.2.2)
  else (⟨r.1, n.1, c.1, h.1, k.1, y.1, 0, []⟩, y.2.1, e)
def evZ : Ev := ⟨0, 0, clk0, 0, 0, [], 0, []⟩
def takeFin (len : Nat) (t : Ev × List UInt8 × Int) : Ev × Int × Int :=
  if t.2.2 ≠ 0 then (evZ, 0, t.2.2)
  else ({ t.1 with c := t.1.c.set t.1.r.toNat (t.1.n - 1) }, ((len - t.2.1.length : Nat) : Int), 0)
def takeE (b : List UInt8) : Ev × Int × Int := takeFin b.length (takeS b)
theorem tNum_le {low high : Int} {s : List UInt8} {e : Int} : (tNum low high s e).2.1.length ≤ s.length := by
  unfold tNum
  split
  · exact Nat.le_refl _
  · simp
theorem tWords_le {most : Int} {s : List UInt8} {e : Int} : (tWords most s e).2.1.length ≤ s.length := by
  have := @tOne_le 1 most s e
  unfold tWords
  split
  · exact this
  · simp; omega
theorem tCtx_le {r : Int} {s : List UInt8} {e : Int} : ∀ i, (tCtx r s e i).2.1.length ≤ s.length
  | 0 => Nat.le_refl _
  | i + 1 => by
    have h1 := @tCtx_le r s e i
    show (tStep r i (tCtx r s e i)).2.1.length ≤ s.length
    unfold tStep
    split
    · exact Nat.le_trans tNum_le h1
    · exact h1


theorem tNum_ok {low high : Int} (hh : high ≤ 4611686018427387904) {s : List UInt8} {e : Int} (h : (tNum low high s e).2.2 = 0) : e = 0 ∧ ∃ n : Nat, (tNum low high s e).1 = n ∧ low ≤ n ∧ (n : Int) ≤ high ∧ s = vput n ++ (tNum low high s e).2.1 := by
  unfold tNum at h ⊢
  by_cases hc : e ≠ 0 ∨ (vtake s).2.2 ≠ 0
  · rw [if_pos hc] at h
    simp only at h
    split at h
    · rename_i he
      rcases hc with hc | hc
      · exact absurd he hc
      · exact absurd h hc
    · rename_i he; exact absurd h he
  rw [if_neg hc] at h ⊢
  simp only at h ⊢
  have hr : ¬ (((vtake s).1 : Int) < low ∨ high < ((vtake s).1 : Int)) := fun hr => by rw [if_pos hr] at h; cases h
  have he : e = 0 ∧ (vtake s).2.2 = 0 := by omega
  generalize hv : vtake s = t at *
  obtain ⟨n, k, x⟩ := t
  obtain ⟨rfl, rfl⟩ := he
  obtain ⟨h1, h2, h3, _⟩ := vtake_ok hv
  refine ⟨rfl, n, wi (by omega) (by omega), by omega, by omega, ?_⟩
  show s = vput n ++ s.drop k
  rw [← h1, List.take_append_drop]
theorem tCtx_e {r : Int} {s : List UInt8} {e : Int} : ∀ i, (tCtx r s e i).2.2 = 0 → e = 0
  | 0, h => h
  | i + 1, h => by
    have h1 : (tStep r i (tCtx r s e i)).2.2 = 0 := h
    unfold tStep at h1
    split at h1
    · exact tCtx_e i (tNum_ok (by decide) h1).1
    · exact tCtx_e i h1
theorem tWords_ok {most : Int} {s : List UInt8} {e : Int} (h : (tWords most s e).2.2 = 0) : e = 0 ∧ 1 ≤ (tWords most s e).1.length ∧ ((tWords most s e).1.length : Int) ≤ most ∧ s = UInt8.ofNat (tWords most s e).1.length :: (tWords most s e).1 ++ (tWords most s e).2.1 := by
  unfold tWords at h ⊢
  by_cases hc : (tOne 1 most s e).2.2 ≠ 0 ∨ ((tOne 1 most s e).2.1.length : Int) < (tOne 1 most s e).1
  · rw [if_pos hc] at h
    simp only at h
    split at h
    · cases h
    · rename_i he; exact absurd h he
  rw [if_neg hc] at h ⊢
  simp only at h ⊢
  obtain ⟨he, h1, h2, ch, h3, h4⟩ := tOne_ok h
  generalize tOne 1 most s e = t at *
  obtain ⟨n, s', e'⟩ := t
  simp only at *
  have hl : (s'.take n.toNat).length = n.toNat := by rw [List.length_take]; omega
  refine ⟨he, by omega, by omega, ?_⟩
  rw [hl, h3, h4]
  have : UInt8.ofNat ((ch.toNat : Int)).toNat = ch := by simp
  rw [this]
  simp
theorem tKeyE_ok {key : List UInt8} {e : Int} (h : tKeyE key e = 0) : e = 0 ∧ keyOk key = true := by
  unfold tKeyE at h
  split at h
  · exact ⟨h, by assumption⟩
  · split at h
    · cases h
    · rename_i he; exact absurd h he
structure TakeIn (x : Ev) : Prop where
  r0 : 0 ≤ x.r
  r5 : x.r < 5
  n1 : 1 ≤ x.n
  n2 : x.n ≤ 1048576
theorem takeS_in (b : List UInt8) (h : (takeS b).2.2 = 0) : TakeIn (takeS b).1 := by
  unfold takeS at h ⊢
  dsimp only at h ⊢
  generalize hq1 : tOne 1 5 b 0 = q1 at *
  obtain ⟨kd, s1, e1⟩ := q1
  dsimp only at h ⊢
  generalize hq2 : tOne 0 4 s1 e1 = q2 at *
  obtain ⟨r, s2, e2⟩ := q2
  dsimp only at h ⊢
  generalize hq3 : tNum 1 1048576 s2 e2 = q3 at *
  obtain ⟨n, s3, e3⟩ := q3
  dsimp only at h ⊢
  have e5 : ∀ {c : Clk × List UInt8 × Int}, c = tCtx r s3 e3 5 → ∀ {y : List UInt8 × List UInt8 × Int}, y = tWords 8 (tNum 1 16777216 c.2.1 c.2.2).2.1 (tNum 1 16777216 c.2.1 c.2.2).2.2 → tKeyE y.1 y.2.2 = 0 → e3 = 0 := by
    intro c hc y hy h
    have h1 := (tKeyE_ok h).1
    rw [hy] at h1
    have h2 := (tNum_ok (by decide) (tWords_ok h1).1).1
    rw [hc] at h2
    exact tCtx_e 5 h2
  have key : e3 = 0 → TakeIn ⟨r, n, (tCtx r s3 e3 5).1, (tNum 1 16777216 (tCtx r s3 e3 5).2.1 (tCtx r s3 e3 5).2.2).1, kd, [], 0, []⟩ := by
    intro he
    subst he
    have h3 := tNum_ok (low := 1) (high := 1048576) (by decide) (s := s2) (e := e2) (by rw [hq3])
    rw [hq3] at h3
    obtain ⟨he2, m, hm, h4, h5, _⟩ := h3
    subst he2
    have h6 := tOne_ok (low := 0) (high := 4) (s := s1) (e := e1) (by rw [hq2])
    rw [hq2] at h6
    dsimp only at hm h6
    exact ⟨h6.2.1, by have := h6.2.2.1; show r < 5; omega, by show 1 ≤ n; omega, by show n ≤ 1048576; omega⟩
  by_cases hk : 2 < kd
  · rw [if_pos hk] at h ⊢
    have h1 := (tOne_ok (tWords_ok h).1).1
    have := key (e5 rfl rfl h1)
    exact ⟨this.r0, this.r5, this.n1, this.n2⟩
  · rw [if_neg hk] at h ⊢
    have := key (e5 rfl rfl h)
    exact ⟨this.r0, this.r5, this.n1, this.n2⟩
end Go.Proofs.Ytgdbbaggkoillaa
/- The program's tables, as instances. (Printed by gen/facts.py.) -/
namespace Go.Proofs.Ytgdbbaggkoillaa
namespace K
theorem el_of {P : Program} {t sz b : Nat} {z : List Value} (h : (P.info? t).map (fun i => (i.size, i.bytes, i.zero.map (·.cells.toList))) = some (sz, b, some z)) (hl : z.length = sz) (h0 : 0 < sz) : El P t sz b z := by
  cases hi : P.info? t with
  | none => rw [hi] at h; cases h
  | some i =>
    rw [hi] at h
    simp only [Option.map_some, Option.some.injEq, Prod.mk.injEq] at h
    obtain ⟨h1, h2, h3⟩ := h
    cases hz : i.zero with
    | none => rw [hz] at h3; cases h3
    | some zv =>
      rw [hz] at h3
      simp only [Option.map_some, Option.some.injEq] at h3
      exact ⟨i, zv, hi, h1, h2, hz, by rw [← h3], hl, h0⟩
theorem fd_of {P : Program} {t f o ft : Nat} {fs : Array Field} {fd : Field} (hu : P.underlying t = some (.struct fs)) (hf : fs[f]? = some fd) (ho : fd.offset = o) (ht : fd.type = ft) {sz b : Nat} {z : List Value} (he : El P ft sz b z) : Fd P t f o ft := by
  obtain ⟨i, zv, hi, hs, _, _, _, _, h0⟩ := he.h
  exact ⟨fs, fd, i, hu, hf, ho, ht, by rw [ht]; exact hi, by omega⟩
instance : Sc Try.prog 1 := ⟨⟨_, Try.underlying1, rfl⟩, by kernel_rfl⟩
instance e1 : El Try.prog 1 1 8 [.nilFunc] := el_of (by kernel_rfl) rfl (by decide)
instance : TInt Try.prog 2 .i64 := ⟨Try.underlying2⟩
instance : Sc Try.prog 2 := ⟨⟨_, Try.underlying2, rfl⟩, by kernel_rfl⟩
instance e2 : El Try.prog 2 1 8 [(.int .i64 0)] := el_of (by kernel_rfl) rfl (by decide)
instance : TInt Try.prog 3 .i64 := ⟨Try.underlying3⟩
instance : Sc Try.prog 3 := ⟨⟨_, Try.underlying3, rfl⟩, by kernel_rfl⟩
instance e3 : El Try.prog 3 1 8 [(.int .i64 0)] := el_of (by kernel_rfl) rfl (by decide)
instance : Sc Try.prog 4 := ⟨⟨_, Try.underlying4, rfl⟩, by kernel_rfl⟩
instance e4 : El Try.prog 4 1 1 [(.bool false)] := el_of (by kernel_rfl) rfl (by decide)
instance : TInt Try.prog 5 .u8 := ⟨Try.underlying5⟩
instance : Sc Try.prog 5 := ⟨⟨_, Try.underlying5, rfl⟩, by kernel_rfl⟩
instance e5 : El Try.prog 5 1 1 [(.int .u8 0)] := el_of (by kernel_rfl) rfl (by decide)
instance : TInt Try.prog 6 .u8 := ⟨Try.underlying6⟩
instance : Sc Try.prog 6 := ⟨⟨_, Try.underlying6, rfl⟩, by kernel_rfl⟩
instance e6 : El Try.prog 6 1 1 [(.int .u8 0)] := el_of (by kernel_rfl) rfl (by decide)
instance : Ag Try.prog 7 4 := ⟨⟨_, Try.underlying7, rfl⟩, by kernel_rfl⟩
instance e7 : El Try.prog 7 4 24 [(.int .i64 0), (.int .i64 0), (.bool false), (.int .u8 0)] := el_of (by kernel_rfl) rfl (by decide)
instance : Ag Try.prog 8 4 := ⟨⟨_, Try.underlying8, rfl⟩, by kernel_rfl⟩
instance e8 : El Try.prog 8 4 24 [(.int .i64 0), (.int .i64 0), (.bool false), (.int .u8 0)] := el_of (by kernel_rfl) rfl (by decide)
instance : TStr Try.prog 9 := ⟨Try.underlying9⟩
instance : Sc Try.prog 9 := ⟨⟨_, Try.underlying9, rfl⟩, by kernel_rfl⟩
instance e9 : El Try.prog 9 1 16 [(str [])] := el_of (by kernel_rfl) rfl (by decide)
instance : TStr Try.prog 10 := ⟨Try.underlying10⟩
instance : Sc Try.prog 10 := ⟨⟨_, Try.underlying10, rfl⟩, by kernel_rfl⟩
instance e10 : El Try.prog 10 1 16 [(str [])] := el_of (by kernel_rfl) rfl (by decide)
instance : TStr Try.prog 11 := ⟨Try.underlying11⟩
instance : Sc Try.prog 11 := ⟨⟨_, Try.underlying11, rfl⟩, by kernel_rfl⟩
instance e11 : El Try.prog 11 1 16 [(str [])] := el_of (by kernel_rfl) rfl (by decide)
instance : TInt Try.prog 12 .u64 := ⟨Try.underlying12⟩
instance : Sc Try.prog 12 := ⟨⟨_, Try.underlying12, rfl⟩, by kernel_rfl⟩
instance e12 : El Try.prog 12 1 8 [(.int .u64 0)] := el_of (by kernel_rfl) rfl (by decide)
instance : Ag Try.prog 14 2 := ⟨⟨_, Try.underlying14, rfl⟩, by kernel_rfl⟩
instance e14 : El Try.prog 14 2 24 [(str []), (.int .u64 0)] := el_of (by kernel_rfl) rfl (by decide)
instance : Sc Try.prog 15 := ⟨⟨_, Try.underlying15, rfl⟩, by kernel_rfl⟩
instance e15 : El Try.prog 15 1 8 [(.pointer none)] := el_of (by kernel_rfl) rfl (by decide)
instance : Sc Try.prog 16 := ⟨⟨_, Try.underlying16, rfl⟩, by kernel_rfl⟩
instance e16 : El Try.prog 16 1 8 [(.pointer none)] := el_of (by kernel_rfl) rfl (by decide)
instance : Sc Try.prog 17 := ⟨⟨_, Try.underlying17, rfl⟩, by kernel_rfl⟩
instance e17 : El Try.prog 17 1 8 [(.pointer none)] := el_of (by kernel_rfl) rfl (by decide)
instance : Ag Try.prog 19 1 := ⟨⟨_, Try.underlying19, rfl⟩, by kernel_rfl⟩
instance e19 : El Try.prog 19 1 8 [(.pointer none)] := el_of (by kernel_rfl) rfl (by decide)
instance : Sc Try.prog 20 := ⟨⟨_, Try.underlying20, rfl⟩, by kernel_rfl⟩
instance e20 : El Try.prog 20 1 16 [.nilIface] := el_of (by kernel_rfl) rfl (by decide)
instance : TInt Try.prog 21 .i32 := ⟨Try.underlying21⟩
instance : Sc Try.prog 21 := ⟨⟨_, Try.underlying21, rfl⟩, by kernel_rfl⟩
instance e21 : El Try.prog 21 1 4 [(.int .i32 0)] := el_of (by kernel_rfl) rfl (by decide)
instance : TArr Try.prog 23 5 3 := ⟨Try.underlying23⟩
instance : Ag Try.prog 23 5 := ⟨⟨_, Try.underlying23, rfl⟩, by kernel_rfl⟩
instance e23 : El Try.prog 23 5 40 [(.int .i64 0), (.int .i64 0), (.int .i64 0), (.int .i64 0), (.int .i64 0)] := el_of (by kernel_rfl) rfl (by decide)
instance : Ag Try.prog 25 12 := ⟨⟨_, Try.underlying25, rfl⟩, by kernel_rfl⟩
instance e25 : El Try.prog 25 12 112 [(.int .i64 0), (.int .i64 0), (.int .i64 0), (.int .i64 0), (.int .i64 0), (.int .i64 0), (.int .i64 0), (.int .i64 0), (.int .i64 0), (str []), (.int .i64 0), (str [])] := el_of (by kernel_rfl) rfl (by decide)
instance : TSl Try.prog 28 5 := ⟨Try.underlying28⟩
instance : Sc Try.prog 28 := ⟨⟨_, Try.underlying28, rfl⟩, by kernel_rfl⟩
instance e28 : El Try.prog 28 1 24 [(.slice none 0 0)] := el_of (by kernel_rfl) rfl (by decide)
instance : TInt Try.prog 29 .i64 := ⟨Try.underlying29⟩
instance : Sc Try.prog 29 := ⟨⟨_, Try.underlying29, rfl⟩, by kernel_rfl⟩
instance e29 : El Try.prog 29 1 8 [(.int .i64 0)] := el_of (by kernel_rfl) rfl (by decide)
instance : TSl Try.prog 41 25 := ⟨Try.underlying41⟩
instance : Sc Try.prog 41 := ⟨⟨_, Try.underlying41, rfl⟩, by kernel_rfl⟩
instance e41 : El Try.prog 41 1 24 [(.slice none 0 0)] := el_of (by kernel_rfl) rfl (by decide)
instance : Ag Try.prog 43 9 := ⟨⟨_, Try.underlying43, rfl⟩, by kernel_rfl⟩
instance e43 : El Try.prog 43 9 88 [(.int .i64 0), (.int .i64 0), (.int .i64 0), (.int .i64 0), (.int .i64 0), (.int .i64 0), (.int .i64 0), (.int .i64 0), (.slice none 0 0)] := el_of (by kernel_rfl) rfl (by decide)
instance : Ag Try.prog 47 9 := ⟨⟨_, Try.underlying47, rfl⟩, by kernel_rfl⟩
instance e47 : El Try.prog 47 9 88 [(.int .i64 0), (.int .i64 0), (.int .i64 0), (.int .i64 0), (.int .i64 0), (.int .i64 0), (.int .i64 0), (.int .i64 0), (.slice none 0 0)] := el_of (by kernel_rfl) rfl (by decide)
instance : TInt Try.prog 54 .u32 := ⟨Try.underlying54⟩
instance : Sc Try.prog 54 := ⟨⟨_, Try.underlying54, rfl⟩, by kernel_rfl⟩
instance e54 : El Try.prog 54 1 4 [(.int .u32 0)] := el_of (by kernel_rfl) rfl (by decide)
instance : TInt Try.prog 57 .u16 := ⟨Try.underlying57⟩
instance : Sc Try.prog 57 := ⟨⟨_, Try.underlying57, rfl⟩, by kernel_rfl⟩
instance e57 : El Try.prog 57 1 2 [(.int .u16 0)] := el_of (by kernel_rfl) rfl (by decide)
instance : TSl Try.prog 59 43 := ⟨Try.underlying59⟩
instance : Sc Try.prog 59 := ⟨⟨_, Try.underlying59, rfl⟩, by kernel_rfl⟩
instance e59 : El Try.prog 59 1 24 [(.slice none 0 0)] := el_of (by kernel_rfl) rfl (by decide)
instance : TSl Try.prog 60 3 := ⟨Try.underlying60⟩
instance : Sc Try.prog 60 := ⟨⟨_, Try.underlying60, rfl⟩, by kernel_rfl⟩
instance e60 : El Try.prog 60 1 24 [(.slice none 0 0)] := el_of (by kernel_rfl) rfl (by decide)
instance : TArr Try.prog 67 2 57 := ⟨Try.underlying67⟩
instance : Ag Try.prog 67 2 := ⟨⟨_, Try.underlying67, rfl⟩, by kernel_rfl⟩
instance e67 : El Try.prog 67 2 4 [(.int .u16 0), (.int .u16 0)] := el_of (by kernel_rfl) rfl (by decide)
instance : TInt Try.prog 68 .u64 := ⟨Try.underlying68⟩
instance : Sc Try.prog 68 := ⟨⟨_, Try.underlying68, rfl⟩, by kernel_rfl⟩
instance e68 : El Try.prog 68 1 8 [(.int .u64 0)] := el_of (by kernel_rfl) rfl (by decide)
instance : Ag Try.prog 73 4 := ⟨⟨_, Try.underlying73, rfl⟩, by kernel_rfl⟩
instance e73 : El Try.prog 73 4 48 [(.int .i64 0), (str []), (.int .i64 0), (str [])] := el_of (by kernel_rfl) rfl (by decide)
instance : Sc Try.prog 77 := ⟨⟨_, Try.underlying77, rfl⟩, by kernel_rfl⟩
instance e77 : El Try.prog 77 1 8 [.nilFunc] := el_of (by kernel_rfl) rfl (by decide)
instance : Sc Try.prog 78 := ⟨⟨_, Try.underlying78, rfl⟩, by kernel_rfl⟩
instance e78 : El Try.prog 78 1 8 [.nilFunc] := el_of (by kernel_rfl) rfl (by decide)
instance : Sc Try.prog 81 := ⟨⟨_, Try.underlying81, rfl⟩, by kernel_rfl⟩
instance e81 : El Try.prog 81 1 8 [.nilFunc] := el_of (by kernel_rfl) rfl (by decide)
instance : Sc Try.prog 82 := ⟨⟨_, Try.underlying82, rfl⟩, by kernel_rfl⟩
instance e82 : El Try.prog 82 1 8 [.nilFunc] := el_of (by kernel_rfl) rfl (by decide)
instance : Sc Try.prog 83 := ⟨⟨_, Try.underlying83, rfl⟩, by kernel_rfl⟩
instance e83 : El Try.prog 83 1 8 [.nilFunc] := el_of (by kernel_rfl) rfl (by decide)
instance : Ag Try.prog 87 3 := ⟨⟨_, Try.underlying87, rfl⟩, by kernel_rfl⟩
instance e87 : El Try.prog 87 3 3 [(.bool false), (.bool false), (.bool false)] := el_of (by kernel_rfl) rfl (by decide)
instance : TArr Try.prog 96 4 5 := ⟨Try.underlying96⟩
instance : Ag Try.prog 96 4 := ⟨⟨_, Try.underlying96, rfl⟩, by kernel_rfl⟩
instance e96 : El Try.prog 96 4 4 [(.int .u8 0), (.int .u8 0), (.int .u8 0), (.int .u8 0)] := el_of (by kernel_rfl) rfl (by decide)
instance : TArr Try.prog 103 3 9 := ⟨Try.underlying103⟩
instance : Ag Try.prog 103 3 := ⟨⟨_, Try.underlying103, rfl⟩, by kernel_rfl⟩
instance e103 : El Try.prog 103 3 48 [(str []), (str []), (str [])] := el_of (by kernel_rfl) rfl (by decide)
instance : TArr Try.prog 104 4 9 := ⟨Try.underlying104⟩
instance : Ag Try.prog 104 4 := ⟨⟨_, Try.underlying104, rfl⟩, by kernel_rfl⟩
instance e104 : El Try.prog 104 4 64 [(str []), (str []), (str []), (str [])] := el_of (by kernel_rfl) rfl (by decide)
instance : TInt Try.prog 105 .u64 := ⟨Try.underlying105⟩
instance : Sc Try.prog 105 := ⟨⟨_, Try.underlying105, rfl⟩, by kernel_rfl⟩
instance e105 : El Try.prog 105 1 8 [(.int .u64 0)] := el_of (by kernel_rfl) rfl (by decide)
instance : Sc Try.prog 108 := ⟨⟨_, Try.underlying108, rfl⟩, by kernel_rfl⟩
instance e108 : El Try.prog 108 1 8 [(.map none)] := el_of (by kernel_rfl) rfl (by decide)
instance : TSl Try.prog 114 28 := ⟨Try.underlying114⟩
instance : Sc Try.prog 114 := ⟨⟨_, Try.underlying114, rfl⟩, by kernel_rfl⟩
instance e114 : El Try.prog 114 1 24 [(.slice none 0 0)] := el_of (by kernel_rfl) rfl (by decide)
instance : Sc Try.prog 116 := ⟨⟨_, Try.underlying116, rfl⟩, by kernel_rfl⟩
instance e116 : El Try.prog 116 1 8 [.nilFunc] := el_of (by kernel_rfl) rfl (by decide)
instance : Sc Try.prog 118 := ⟨⟨_, Try.underlying118, rfl⟩, by kernel_rfl⟩
instance e118 : El Try.prog 118 1 8 [(.pointer none)] := el_of (by kernel_rfl) rfl (by decide)
instance : Ag Try.prog 120 3 := ⟨⟨_, Try.underlying120, rfl⟩, by kernel_rfl⟩
instance e120 : El Try.prog 120 3 40 [(.slice none 0 0), (.int .i64 0), (.int .i64 0)] := el_of (by kernel_rfl) rfl (by decide)
instance : TInt Try.prog 128 .u8 := ⟨Try.underlying128⟩
instance : Sc Try.prog 128 := ⟨⟨_, Try.underlying128, rfl⟩, by kernel_rfl⟩
instance e128 : El Try.prog 128 1 1 [(.int .u8 0)] := el_of (by kernel_rfl) rfl (by decide)
instance : Fd Try.prog 7 0 0 2 := fd_of Try.underlying7 rfl rfl rfl (e2)
instance : Fd Try.prog 7 1 1 3 := fd_of Try.underlying7 rfl rfl rfl (e3)
instance : Fd Try.prog 7 2 2 4 := fd_of Try.underlying7 rfl rfl rfl (e4)
instance : Fd Try.prog 7 3 3 6 := fd_of Try.underlying7 rfl rfl rfl (e6)
instance : Fd Try.prog 8 0 0 2 := fd_of Try.underlying8 rfl rfl rfl (e2)
instance : Fd Try.prog 8 1 1 3 := fd_of Try.underlying8 rfl rfl rfl (e3)
instance : Fd Try.prog 8 2 2 4 := fd_of Try.underlying8 rfl rfl rfl (e4)
instance : Fd Try.prog 8 3 3 6 := fd_of Try.underlying8 rfl rfl rfl (e6)
instance : Fd Try.prog 14 0 0 9 := fd_of Try.underlying14 rfl rfl rfl (e9)
instance : Fd Try.prog 14 1 1 12 := fd_of Try.underlying14 rfl rfl rfl (e12)
instance : Fd Try.prog 19 0 0 17 := fd_of Try.underlying19 rfl rfl rfl (e17)
instance : Fd Try.prog 25 0 0 3 := fd_of Try.underlying25 rfl rfl rfl (e3)
instance : Fd Try.prog 25 1 1 3 := fd_of Try.underlying25 rfl rfl rfl (e3)
instance : Fd Try.prog 25 2 2 23 := fd_of Try.underlying25 rfl rfl rfl (e23)
instance : Fd Try.prog 25 3 7 3 := fd_of Try.underlying25 rfl rfl rfl (e3)
instance : Fd Try.prog 25 4 8 3 := fd_of Try.underlying25 rfl rfl rfl (e3)
instance : Fd Try.prog 25 5 9 9 := fd_of Try.underlying25 rfl rfl rfl (e9)
instance : Fd Try.prog 25 6 10 3 := fd_of Try.underlying25 rfl rfl rfl (e3)
instance : Fd Try.prog 25 7 11 9 := fd_of Try.underlying25 rfl rfl rfl (e9)
instance : Fd Try.prog 43 0 0 3 := fd_of Try.underlying43 rfl rfl rfl (e3)
instance : Fd Try.prog 43 1 1 3 := fd_of Try.underlying43 rfl rfl rfl (e3)
instance : Fd Try.prog 43 2 2 3 := fd_of Try.underlying43 rfl rfl rfl (e3)
instance : Fd Try.prog 43 3 3 23 := fd_of Try.underlying43 rfl rfl rfl (e23)
instance : Fd Try.prog 43 4 8 41 := fd_of Try.underlying43 rfl rfl rfl (e41)
instance : Fd Try.prog 47 0 0 3 := fd_of Try.underlying47 rfl rfl rfl (e3)
instance : Fd Try.prog 47 1 1 3 := fd_of Try.underlying47 rfl rfl rfl (e3)
instance : Fd Try.prog 47 2 2 3 := fd_of Try.underlying47 rfl rfl rfl (e3)
instance : Fd Try.prog 47 3 3 23 := fd_of Try.underlying47 rfl rfl rfl (e23)
instance : Fd Try.prog 47 4 8 41 := fd_of Try.underlying47 rfl rfl rfl (e41)
instance : Fd Try.prog 73 0 0 3 := fd_of Try.underlying73 rfl rfl rfl (e3)
instance : Fd Try.prog 73 1 1 9 := fd_of Try.underlying73 rfl rfl rfl (e9)
instance : Fd Try.prog 73 2 2 3 := fd_of Try.underlying73 rfl rfl rfl (e3)
instance : Fd Try.prog 73 3 3 9 := fd_of Try.underlying73 rfl rfl rfl (e9)
instance : Fd Try.prog 87 0 0 4 := fd_of Try.underlying87 rfl rfl rfl (e4)
instance : Fd Try.prog 87 1 1 4 := fd_of Try.underlying87 rfl rfl rfl (e4)
instance : Fd Try.prog 87 2 2 4 := fd_of Try.underlying87 rfl rfl rfl (e4)
instance : Fd Try.prog 120 0 0 28 := fd_of Try.underlying120 rfl rfl rfl (e28)
instance : Fd Try.prog 120 1 1 3 := fd_of Try.underlying120 rfl rfl rfl (e3)
instance : Fd Try.prog 120 2 2 29 := fd_of Try.underlying120 rfl rfl rfl (e29)
instance : Bd Try.prog 7 [(.int .i64 0), (.int .i64 0), (.bool false), (.int .u8 0)] (nth [(0, 1), (1, 1), (2, 1), (3, 1)]) := bd_struct (by kernel_rfl) Try.underlying7 (by kernel_rfl)
instance : Bd Try.prog 8 [(.int .i64 0), (.int .i64 0), (.bool false), (.int .u8 0)] (nth [(0, 1), (1, 1), (2, 1), (3, 1)]) := bd_struct (by kernel_rfl) Try.underlying8 (by kernel_rfl)
instance : Bd Try.prog 14 [(str []), (.int .u64 0)] (nth [(0, 1), (1, 1)]) := bd_struct (by kernel_rfl) Try.underlying14 (by kernel_rfl)
instance : Bd Try.prog 19 [(.pointer none)] (nth [(0, 1)]) := bd_struct (by kernel_rfl) Try.underlying19 (by kernel_rfl)
instance : Bd Try.prog 23 [(.int .i64 0), (.int .i64 0), (.int .i64 0), (.int .i64 0), (.int .i64 0)] (fun i => some (i * 1, 1)) := bd_array (by kernel_rfl) Try.underlying23 (by kernel_rfl)
instance : Bd Try.prog 25 [(.int .i64 0), (.int .i64 0), (.int .i64 0), (.int .i64 0), (.int .i64 0), (.int .i64 0), (.int .i64 0), (.int .i64 0), (.int .i64 0), (str []), (.int .i64 0), (str [])] (nth [(0, 1), (1, 1), (2, 5), (7, 1), (8, 1), (9, 1), (10, 1), (11, 1)]) := bd_struct (by kernel_rfl) Try.underlying25 (by kernel_rfl)
instance : Bd Try.prog 43 [(.int .i64 0), (.int .i64 0), (.int .i64 0), (.int .i64 0), (.int .i64 0), (.int .i64 0), (.int .i64 0), (.int .i64 0), (.slice none 0 0)] (nth [(0, 1), (1, 1), (2, 1), (3, 5), (8, 1)]) := bd_struct (by kernel_rfl) Try.underlying43 (by kernel_rfl)
instance : Bd Try.prog 47 [(.int .i64 0), (.int .i64 0), (.int .i64 0), (.int .i64 0), (.int .i64 0), (.int .i64 0), (.int .i64 0), (.int .i64 0), (.slice none 0 0)] (nth [(0, 1), (1, 1), (2, 1), (3, 5), (8, 1)]) := bd_struct (by kernel_rfl) Try.underlying47 (by kernel_rfl)
instance : Bd Try.prog 67 [(.int .u16 0), (.int .u16 0)] (fun i => some (i * 1, 1)) := bd_array (by kernel_rfl) Try.underlying67 (by kernel_rfl)
instance : Bd Try.prog 73 [(.int .i64 0), (str []), (.int .i64 0), (str [])] (nth [(0, 1), (1, 1), (2, 1), (3, 1)]) := bd_struct (by kernel_rfl) Try.underlying73 (by kernel_rfl)
instance : Bd Try.prog 87 [(.bool false), (.bool false), (.bool false)] (nth [(0, 1), (1, 1), (2, 1)]) := bd_struct (by kernel_rfl) Try.underlying87 (by kernel_rfl)
instance : Bd Try.prog 96 [(.int .u8 0), (.int .u8 0), (.int .u8 0), (.int .u8 0)] (fun i => some (i * 1, 1)) := bd_array (by kernel_rfl) Try.underlying96 (by kernel_rfl)
instance : Bd Try.prog 103 [(str []), (str []), (str [])] (fun i => some (i * 1, 1)) := bd_array (by kernel_rfl) Try.underlying103 (by kernel_rfl)
instance : Bd Try.prog 104 [(str []), (str []), (str []), (str [])] (fun i => some (i * 1, 1)) := bd_array (by kernel_rfl) Try.underlying104 (by kernel_rfl)
instance : Bd Try.prog 120 [(.slice none 0 0), (.int .i64 0), (.int .i64 0)] (nth [(0, 1), (1, 1), (2, 1)]) := bd_struct (by kernel_rfl) Try.underlying120 (by kernel_rfl)
instance : Fnc Try.prog 3 Try.f3 := ⟨Try.func3, by kernel_rfl, by kernel_rfl⟩
instance : Fnc Try.prog 4 Try.f4 := ⟨Try.func4, by kernel_rfl, by kernel_rfl⟩
instance : Fnc Try.prog 5 Try.f5 := ⟨Try.func5, by kernel_rfl, by kernel_rfl⟩
instance : Fnc Try.prog 6 Try.f6 := ⟨Try.func6, by kernel_rfl, by kernel_rfl⟩
instance : Fnc Try.prog 7 Try.f7 := ⟨Try.func7, by kernel_rfl, by kernel_rfl⟩
instance : Fnc Try.prog 8 Try.f8 := ⟨Try.func8, by kernel_rfl, by kernel_rfl⟩
instance : Fnc Try.prog 9 Try.f9 := ⟨Try.func9, by kernel_rfl, by kernel_rfl⟩
instance : Fnc Try.prog 10 Try.f10 := ⟨Try.func10, by kernel_rfl, by kernel_rfl⟩
instance : Fnc Try.prog 11 Try.f11 := ⟨Try.func11, by kernel_rfl, by kernel_rfl⟩
instance : Fnc Try.prog 12 Try.f12 := ⟨Try.func12, by kernel_rfl, by kernel_rfl⟩
instance : Fnc Try.prog 13 Try.f13 := ⟨Try.func13, by kernel_rfl, by kernel_rfl⟩
instance : Fnc Try.prog 14 Try.f14 := ⟨Try.func14, by kernel_rfl, by kernel_rfl⟩
instance : Fnc Try.prog 15 Try.f15 := ⟨Try.func15, by kernel_rfl, by kernel_rfl⟩
instance : Fnc Try.prog 16 Try.f16 := ⟨Try.func16, by kernel_rfl, by kernel_rfl⟩
instance : Fnc Try.prog 17 Try.f17 := ⟨Try.func17, by kernel_rfl, by kernel_rfl⟩
instance : Fnc Try.prog 18 Try.f18 := ⟨Try.func18, by kernel_rfl, by kernel_rfl⟩
instance : Fnc Try.prog 19 Try.f19 := ⟨Try.func19, by kernel_rfl, by kernel_rfl⟩
instance : Fnc Try.prog 20 Try.f20 := ⟨Try.func20, by kernel_rfl, by kernel_rfl⟩
instance : Fnc Try.prog 21 Try.f21 := ⟨Try.func21, by kernel_rfl, by kernel_rfl⟩
instance : Fnc Try.prog 22 Try.f22 := ⟨Try.func22, by kernel_rfl, by kernel_rfl⟩
instance : Fnc Try.prog 23 Try.f23 := ⟨Try.func23, by kernel_rfl, by kernel_rfl⟩
instance : Fnc Try.prog 24 Try.f24 := ⟨Try.func24, by kernel_rfl, by kernel_rfl⟩
instance : Fnc Try.prog 25 Try.f25 := ⟨Try.func25, by kernel_rfl, by kernel_rfl⟩
instance : Fnc Try.prog 26 Try.f26 := ⟨Try.func26, by kernel_rfl, by kernel_rfl⟩
instance : Fnc Try.prog 27 Try.f27 := ⟨Try.func27, by kernel_rfl, by kernel_rfl⟩
instance : Fnc Try.prog 28 Try.f28 := ⟨Try.func28, by kernel_rfl, by kernel_rfl⟩
instance : Fnc Try.prog 29 Try.f29 := ⟨Try.func29, by kernel_rfl, by kernel_rfl⟩
instance : Fnc Try.prog 30 Try.f30 := ⟨Try.func30, by kernel_rfl, by kernel_rfl⟩
instance : Fnc Try.prog 31 Try.f31 := ⟨Try.func31, by kernel_rfl, by kernel_rfl⟩
instance : Fnc Try.prog 32 Try.f32 := ⟨Try.func32, by kernel_rfl, by kernel_rfl⟩
instance : Fnc Try.prog 33 Try.f33 := ⟨Try.func33, by kernel_rfl, by kernel_rfl⟩
instance : Fnc Try.prog 34 Try.f34 := ⟨Try.func34, by kernel_rfl, by kernel_rfl⟩
instance : Fnc Try.prog 35 Try.f35 := ⟨Try.func35, by kernel_rfl, by kernel_rfl⟩
instance : Fnc Try.prog 36 Try.f36 := ⟨Try.func36, by kernel_rfl, by kernel_rfl⟩
instance : Fnc Try.prog 37 Try.f37 := ⟨Try.func37, by kernel_rfl, by kernel_rfl⟩
instance : Fnc Try.prog 38 Try.f38 := ⟨Try.func38, by kernel_rfl, by kernel_rfl⟩
instance : Fnc Try.prog 39 Try.f39 := ⟨Try.func39, by kernel_rfl, by kernel_rfl⟩
instance : Fnc Try.prog 40 Try.f40 := ⟨Try.func40, by kernel_rfl, by kernel_rfl⟩
instance : Fnc Try.prog 41 Try.f41 := ⟨Try.func41, by kernel_rfl, by kernel_rfl⟩
instance : Fnc Try.prog 42 Try.f42 := ⟨Try.func42, by kernel_rfl, by kernel_rfl⟩
instance : Fnc Try.prog 43 Try.f43 := ⟨Try.func43, by kernel_rfl, by kernel_rfl⟩
instance : Fnc Try.prog 44 Try.f44 := ⟨Try.func44, by kernel_rfl, by kernel_rfl⟩
instance : Fnc Try.prog 45 Try.f45 := ⟨Try.func45, by kernel_rfl, by kernel_rfl⟩
instance : Fnc Try.prog 46 Try.f46 := ⟨Try.func46, by kernel_rfl, by kernel_rfl⟩
instance : Fnc Try.prog 47 Try.f47 := ⟨Try.func47, by kernel_rfl, by kernel_rfl⟩
instance : Fnc Try.prog 48 Try.f48 := ⟨Try.func48, by kernel_rfl, by kernel_rfl⟩
instance : Fnc Try.prog 49 Try.f49 := ⟨Try.func49, by kernel_rfl, by kernel_rfl⟩
instance : Fnc Try.prog 50 Try.f50 := ⟨Try.func50, by kernel_rfl, by kernel_rfl⟩
instance : Fnc Try.prog 51 Try.f51 := ⟨Try.func51, by kernel_rfl, by kernel_rfl⟩
instance : Fnc Try.prog 52 Try.f52 := ⟨Try.func52, by kernel_rfl, by kernel_rfl⟩
instance : Fnc Try.prog 53 Try.f53 := ⟨Try.func53, by kernel_rfl, by kernel_rfl⟩
instance : Fnc Try.prog 54 Try.f54 := ⟨Try.func54, by kernel_rfl, by kernel_rfl⟩
instance : Fnc Try.prog 55 Try.f55 := ⟨Try.func55, by kernel_rfl, by kernel_rfl⟩
instance : Fnc Try.prog 56 Try.f56 := ⟨Try.func56, by kernel_rfl, by kernel_rfl⟩
instance : Fnc Try.prog 57 Try.f57 := ⟨Try.func57, by kernel_rfl, by kernel_rfl⟩
instance : Fnc Try.prog 58 Try.f58 := ⟨Try.func58, by kernel_rfl, by kernel_rfl⟩
instance : Fnc Try.prog 59 Try.f59 := ⟨Try.func59, by kernel_rfl, by kernel_rfl⟩
instance : Fnc Try.prog 60 Try.f60 := ⟨Try.func60, by kernel_rfl, by kernel_rfl⟩
instance : Fnc Try.prog 61 Try.f61 := ⟨Try.func61, by kernel_rfl, by kernel_rfl⟩
instance : Fnc Try.prog 62 Try.f62 := ⟨Try.func62, by kernel_rfl, by kernel_rfl⟩
instance : Fnc Try.prog 63 Try.f63 := ⟨Try.func63, by kernel_rfl, by kernel_rfl⟩
instance : Fnc Try.prog 64 Try.f64 := ⟨Try.func64, by kernel_rfl, by kernel_rfl⟩
instance : Fnc Try.prog 65 Try.f65 := ⟨Try.func65, by kernel_rfl, by kernel_rfl⟩
instance : Fnc Try.prog 66 Try.f66 := ⟨Try.func66, by kernel_rfl, by kernel_rfl⟩
instance : Fnc Try.prog 67 Try.f67 := ⟨Try.func67, by kernel_rfl, by kernel_rfl⟩
instance : Fnc Try.prog 68 Try.f68 := ⟨Try.func68, by kernel_rfl, by kernel_rfl⟩
instance : Fnc Try.prog 69 Try.f69 := ⟨Try.func69, by kernel_rfl, by kernel_rfl⟩
instance : Fnc Try.prog 70 Try.f70 := ⟨Try.func70, by kernel_rfl, by kernel_rfl⟩
instance : Fnc Try.prog 71 Try.f71 := ⟨Try.func71, by kernel_rfl, by kernel_rfl⟩
instance : Fnc Try.prog 72 Try.f72 := ⟨Try.func72, by kernel_rfl, by kernel_rfl⟩
instance : Fnc Try.prog 73 Try.f73 := ⟨Try.func73, by kernel_rfl, by kernel_rfl⟩
instance : Fnc Try.prog 74 Try.f74 := ⟨Try.func74, by kernel_rfl, by kernel_rfl⟩
instance : Fnc Try.prog 75 Try.f75 := ⟨Try.func75, by kernel_rfl, by kernel_rfl⟩
instance : Fnc Try.prog 76 Try.f76 := ⟨Try.func76, by kernel_rfl, by kernel_rfl⟩
instance : Fnc Try.prog 77 Try.f77 := ⟨Try.func77, by kernel_rfl, by kernel_rfl⟩
instance : Fnc Try.prog 78 Try.f78 := ⟨Try.func78, by kernel_rfl, by kernel_rfl⟩
instance : Fnc Try.prog 79 Try.f79 := ⟨Try.func79, by kernel_rfl, by kernel_rfl⟩
instance : Fnc Try.prog 80 Try.f80 := ⟨Try.func80, by kernel_rfl, by kernel_rfl⟩
instance : Fnc Try.prog 81 Try.f81 := ⟨Try.func81, by kernel_rfl, by kernel_rfl⟩
instance : Fnc Try.prog 82 Try.f82 := ⟨Try.func82, by kernel_rfl, by kernel_rfl⟩
instance : Fnc Try.prog 83 Try.f83 := ⟨Try.func83, by kernel_rfl, by kernel_rfl⟩
instance : Fnc Try.prog 84 Try.f84 := ⟨Try.func84, by kernel_rfl, by kernel_rfl⟩
instance : Fnc Try.prog 85 Try.f85 := ⟨Try.func85, by kernel_rfl, by kernel_rfl⟩
instance : Fnc Try.prog 86 Try.f86 := ⟨Try.func86, by kernel_rfl, by kernel_rfl⟩
instance : Fnc Try.prog 87 Try.f87 := ⟨Try.func87, by kernel_rfl, by kernel_rfl⟩
instance : Fnc Try.prog 88 Try.f88 := ⟨Try.func88, by kernel_rfl, by kernel_rfl⟩
instance : Fnc Try.prog 89 Try.f89 := ⟨Try.func89, by kernel_rfl, by kernel_rfl⟩
instance : Fnc Try.prog 90 Try.f90 := ⟨Try.func90, by kernel_rfl, by kernel_rfl⟩
instance : Fnc Try.prog 91 Try.f91 := ⟨Try.func91, by kernel_rfl, by kernel_rfl⟩
instance : Fnc Try.prog 92 Try.f92 := ⟨Try.func92, by kernel_rfl, by kernel_rfl⟩
instance : Fnc Try.prog 93 Try.f93 := ⟨Try.func93, by kernel_rfl, by kernel_rfl⟩
instance : Fnc Try.prog 94 Try.f94 := ⟨Try.func94, by kernel_rfl, by kernel_rfl⟩
instance : Fnc Try.prog 95 Try.f95 := ⟨Try.func95, by kernel_rfl, by kernel_rfl⟩
instance : Fnc Try.prog 96 Try.f96 := ⟨Try.func96, by kernel_rfl, by kernel_rfl⟩
instance : Fnc Try.prog 97 Try.f97 := ⟨Try.func97, by kernel_rfl, by kernel_rfl⟩
instance : Fnc Try.prog 98 Try.f98 := ⟨Try.func98, by kernel_rfl, by kernel_rfl⟩
instance : Fnc Try.prog 99 Try.f99 := ⟨Try.func99, by kernel_rfl, by kernel_rfl⟩
instance : Fnc Try.prog 100 Try.f100 := ⟨Try.func100, by kernel_rfl, by kernel_rfl⟩
instance : Fnc Try.prog 101 Try.f101 := ⟨Try.func101, by kernel_rfl, by kernel_rfl⟩
instance : Fnc Try.prog 102 Try.f102 := ⟨Try.func102, by kernel_rfl, by kernel_rfl⟩
theorem mixed : Try.prog.follows .mixedOrders = true := by kernel_rfl
end K
end Go.Proofs.Ytgdbbaggkoillaa
/- The walk's own small logic, seventh part: going over a text. -/
namespace Go.Proofs.Ytgdbbaggkoillaa
namespace K

def si (b : Nat) (s : ByteArray) (pos : Nat) : It where
  foot := fun k => k = b
  holds := fun w => w.heap[b]? = some (.stringIter s pos)
  keep := fun w w' h hk => (hk b rfl).trans h
  live := fun w k h hk => by subst hk; exact (Array.getElem?_eq_some_iff.1 h).1

section
variable {P : Program} {e : Env} {w : World} {d : Option Nat} {ty : Nat} {pos : String} {af : Array Edge} {g : Option (Nat × Bool)} {K : Value → World → Prop}
variable {w0 : World} {F0 : Nat → Prop} {L : List It}
theorem r_ixs {t : Nat} {x y : Operand} {k : IntKind} {i : Int} {l : List UInt8} [h : TStr P t] (hx : ev e x = str l) (hy : ev e y = .int k i) (h0 : 0 ≤ i) (h1 : i < l.length) :
    (execOp (ev e) ⟨d, .index t x y, ty, pos, af, g⟩).run P w = .ok (.value (u8 (l.getD i.toNat 0))) w := by
  have h2 := run_index_string (P := P) (w := w) t ⟨l.toArray⟩ k i h.h
  have hs : (⟨l.toArray⟩ : ByteArray).size = l.length := by simp [ByteArray.size]
  rw [dif_pos ⟨h0, by rw [hs]; exact h1⟩] at h2
  simp only [execOp, hx, hy, str, Sem.run_bind, h2, Result.andThen_ok, Sem.run_pure]
  have h3 : i.toNat < l.length := by omega
  have : l.getD i.toNat 0 = l[i.toNat] := by simp [List.getD, h3]
  rw [this]
  rfl
theorem r_cat {t t' : Nat} {x y : Operand} {l m : List UInt8} (hx : ev e x = str l) (hy : ev e y = str m) (hl : l.length + m.length ≤ 9223372036854775807) : (execOp (ev e) ⟨d, .binOp .add t x y t', ty, pos, af, g⟩).run P w = .ok (.value (str (l ++ m))) w := by
  have : (⟨l.toArray⟩ : ByteArray) ++ ⟨m.toArray⟩ = ⟨(l ++ m).toArray⟩ := by
    apply ByteArray.ext
    simp
  have h2 : (l.length : Int) + m.length ≤ 9223372036854775807 := by omega
  simp [execOp, hx, hy, str, eqGuard, binOp, Op.stringOp, this, ByteArray.size, maxLen]
  omega
theorem o_rg {t : Nat} {x : Operand} {l : List UInt8} [h : TStr P t] (m : Mem w0 F0 w L) (hx : ev e x = str l) (hK : ∀ b w', Mem w0 F0 w' (L ++ [si b ⟨l.toArray⟩ 0]) → K (.pointer (some ⟨b, 0, none⟩)) w') : OwpE P ⟨d, .range t x, ty, pos, af, g⟩ e w K := by
  unfold OwpE
  simp only [execOp, hx, str, Instr.range, Sem.run_bind, run_underlying h.h, Result.andThen_ok, Sem.run_pure, run_newObj]
  exact hK _ _ (m.add (Chg.alloc No w _) (heap_alloc_new w _) (fun b hb => by cases hb; exact Nat.le_refl _))
theorem o_nx0 {x : Operand} {b p : Nat} {l : List UInt8} (m : Mem w0 F0 w L) (k : Nat) (hk : nth L k = some (si b ⟨l.toArray⟩ p)) (hx : ev e x = .pointer (some ⟨b, 0, none⟩)) (hp : l.length ≤ p) (hK : K (.tuple #[.bool false]) w) : OwpE P ⟨d, .next x true, ty, pos, af, g⟩ e w K := by
  have hb : w.heap[b]? = some (.stringIter ⟨l.toArray⟩ p) := m.ok k _ hk
  unfold OwpE
  simp only [execOp, hx, Instr.next, Sem.run_bind, getObj, Sem.run, hb, Result.andThen_ok]
  have : ¬ p < (⟨l.toArray⟩ : ByteArray).size := by simp [ByteArray.size]; omega
  rw [if_neg this]
  exact hK
theorem chg_setObj {b : Nat} {o : Obj} : Chg (fun k => k = b) w { w with heap := w.heap.setIfInBounds b o } :=
  ⟨rfl, rfl, rfl, by simp, fun k _ hk => by simp only; rw [Array.getElem?_setIfInBounds_ne (Ne.symm hk)]⟩
theorem o_nx1 {x : Operand} {b p : Nat} {l : List UInt8} (m : Mem w0 F0 w L) (k : Nat) (hk : nth L k = some (si b ⟨l.toArray⟩ p)) (hx : ev e x = .pointer (some ⟨b, 0, none⟩)) (hp : p < l.length)
    (hK : ∀ w', Mem w0 F0 w' (setN L k (si b ⟨l.toArray⟩ (p + (Utf8.decode ⟨l.toArray⟩ p).2))) → K (.tuple #[.bool true, .int .i64 p, .int .i32 (Utf8.decode ⟨l.toArray⟩ p).1]) w') : OwpE P ⟨d, .next x true, ty, pos, af, g⟩ e w K := by
  have hb : w.heap[b]? = some (.stringIter ⟨l.toArray⟩ p) := m.ok k _ hk
  have hlt : b < w.heap.size := (Array.getElem?_eq_some_iff.1 hb).1
  unfold OwpE
  simp only [execOp, hx, Instr.next, Sem.run_bind, getObj, setObj, Sem.run, hb, Result.andThen_ok]
  have : p < (⟨l.toArray⟩ : ByteArray).size := by simp [ByteArray.size]; omega
  rw [if_pos this]
  simp only [Sem.run_bind, Sem.run, hb, Result.andThen_ok]
  refine hK _ (m.turn k hk chg_setObj ?_ (fun c hc => .inl hc))
  show (w.heap.setIfInBounds b _)[b]? = _
  simp [hlt]
end
theorem size_l (l : List UInt8) : (⟨l.toArray⟩ : ByteArray).size = l.length := by simp [ByteArray.size]
theorem decode_low (l : List UInt8) (p : Nat) (h : p < l.length) (ha : l[p].toNat < 128) : Utf8.decode ⟨l.toArray⟩ p = (l[p].toNat, 1) :=
  decode_ascii ⟨l.toArray⟩ p (by rw [size_l]; exact h) ha
theorem decode_hi (l : List UInt8) (p : Nat) (h : p < l.length) (ha : 128 ≤ l[p].toNat) : 128 ≤ (Utf8.decode ⟨l.toArray⟩ p).1 :=
  (decode_high ⟨l.toArray⟩ p (by rw [size_l]; exact h) ha).1
end K
end Go.Proofs.Ytgdbbaggkoillaa
