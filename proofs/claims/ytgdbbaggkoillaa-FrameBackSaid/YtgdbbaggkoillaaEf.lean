/- Events and edits that may be, made of any: plain. -/
import Derived.Test.YtgdbbaggkoillaaEv
namespace Go.Proofs.Ytgdbbaggkoillaa
open K
theorem wu8i (b : UInt8) : IntKind.i64.wrap (b.toNat : Int) = b.toNat := wi (by omega) (by have := b.toNat_lt; omega)
def bsum (l : List UInt8) : Nat := (l.map (·.toNat)).sum
theorem bsum_le : ∀ l : List UInt8, bsum l ≤ 255 * l.length
  | [] => Nat.le_refl _
  | b :: l => by
    have := bsum_le l
    have := b.toNat_lt
    simp only [bsum, List.map_cons, List.sum_cons, List.length_cons] at *
    omega
theorem bsum_take (l : List UInt8) (i : Nat) (h : i < l.length) : bsum (l.take (i + 1)) = bsum (l.take i) + (l.getD i 0).toNat := by
  unfold bsum
  rw [List.take_add_one, List.map_append, List.sum_append]
  simp [h]
theorem bsum_take_le (l : List UInt8) (i : Nat) : bsum (l.take i) ≤ 255 * i := by
  have := bsum_le (l.take i)
  have : (l.take i).length ≤ i := by simp; omega
  omega
def keys3 : List (List UInt8) := [[97, 110, 110], [98, 111, 98], [99, 121]]
def vals4 : List (List UInt8) := [[49], [116, 119, 111], [0, 255], [116, 119, 101, 108, 118, 101, 32, 98, 121, 116, 101, 115]]
def fitK (n : Int) : Int := 1 + ((n.tmod 5) + 5).tmod 5
def fitR (n : Int) : Int := ((n.tmod 5) + 5).tmod 5
theorem tmod_in (n : Int) (k : Int) (h : 0 < k) : -k < n.tmod k ∧ n.tmod k < k := by
  have h1 := Int.tmod_lt_of_pos n h
  have h2 := Int.tmod_lt_of_pos (-n) h
  rw [Int.neg_tmod] at h2
  have h2 : -k < n.tmod k := by omega
  exact ⟨h2, h1⟩
theorem fitR_in (n : Int) : 0 ≤ fitR n ∧ fitR n < 5 := by
  unfold fitR
  have h := tmod_in n 5 (by decide)
  exact ⟨Int.tmod_nonneg _ (by omega), Int.tmod_lt_of_pos _ (by decide)⟩
theorem mask_in (n : Int) (k : Nat) (hk : k < 62) : 0 ≤ bitv .and .i64 n (2 ^ k - 1) ∧ bitv .and .i64 n (2 ^ k - 1) ≤ 2 ^ k - 1 := by
  have hb : (BitVec.ofInt 64 ((2 : Int) ^ k - 1)).toNat = 2 ^ k - 1 := by
    rw [BitVec.toNat_ofInt]
    have h1 : (2 : Int) ^ k - 1 = ((2 ^ k - 1 : Nat) : Int) := by
      have : 1 ≤ 2 ^ k := Nat.one_le_two_pow
      push_cast [this]; rfl
    rw [h1]
    have h2 : 2 ^ k < 2 ^ 62 := Nat.pow_lt_pow_right (by decide) hk
    omega
  have h3 : (BitVec.ofInt 64 n &&& BitVec.ofInt 64 ((2 : Int) ^ k - 1)).toNat ≤ 2 ^ k - 1 := by
    rw [BitVec.toNat_and, hb]
    exact Nat.and_le_right
  have h2 : 2 ^ k < 2 ^ 62 := Nat.pow_lt_pow_right (by decide) hk
  generalize hq : (BitVec.ofInt 64 n &&& BitVec.ofInt 64 ((2 : Int) ^ k - 1)).toNat = q at h3
  have h4 : bitv .and .i64 n (2 ^ k - 1) = IntKind.i64.wrap (q : Int) := by rw [← hq]; rfl
  rw [h4, wi (by omega) (by omega)]
  have h5 : 1 ≤ 2 ^ k := Nat.one_le_two_pow
  have h6 : ((2 ^ k : Nat) : Int) = (2 : Int) ^ k := by norm_cast
  omega
def m20 (n : Int) : Int := bitv .and .i64 n 1048575
def m24 (n : Int) : Int := bitv .and .i64 n 16777215
def m1 (n : Int) : Int := bitv .and .i64 n 1
theorem m20_in (n : Int) : 0 ≤ m20 n ∧ m20 n ≤ 1048575 := mask_in n 20 (by decide)
theorem m24_in (n : Int) : 0 ≤ m24 n ∧ m24 n ≤ 16777215 := mask_in n 24 (by decide)
theorem m1_in (n : Int) : 0 ≤ m1 n ∧ m1 n ≤ 1 := mask_in n 1 (by decide)
def fitEd (x : Ed) : Ed := ⟨fitK x.kind, keys3.getD (bsum x.key % 3) [], if 2 < fitK x.kind then m1 x.label else 0, if 2 < fitK x.kind then vals4.getD (bsum x.val % 4) [] else []⟩
def fitC (c : Clk) : Clk := ⟨m20 c.c0, m20 c.c1, m20 c.c2, m20 c.c3, m20 c.c4⟩
def fitEv (x : Ev) : Ev := ⟨fitR x.r, 1 + m20 x.n, (fitC x.c).set (fitR x.r).toNat (m20 x.n), 1 + m24 x.h, (fitEd x.ed).kind, (fitEd x.ed).key, (fitEd x.ed).label, (fitEd x.ed).val⟩
theorem keys3_ok : ∀ i, i < 3 → keyOk (keys3.getD i []) = true := by
  intro i hi
  match i, hi with
  | 0, _ => decide | 1, _ => decide | 2, _ => decide
theorem vals4_ok : ∀ i, i < 4 → 1 ≤ (vals4.getD i []).length ∧ (vals4.getD i []).length ≤ 12 := by
  intro i hi
  match i, hi with
  | 0, _ => decide | 1, _ => decide | 2, _ => decide | 3, _ => decide
theorem fitEd_ok (x : Ed) : tEdit (fitEd x) = 0 := by
  have hk : 1 ≤ fitK x.kind ∧ fitK x.kind ≤ 5 := by have := fitR_in x.kind; unfold fitR at this; unfold fitK; omega
  unfold tEdit
  rw [if_neg (show ¬ ((fitEd x).kind < 1 ∨ 5 < (fitEd x).kind) from by show ¬ (fitK x.kind < 1 ∨ 5 < fitK x.kind); omega)]
  have h1 : tKey (fitEd x).key = 0 := if_pos (keys3_ok _ (Nat.mod_lt _ (by decide)))
  rw [if_neg (by rw [h1]; decide)]
  by_cases h : 2 < fitK x.kind
  · rw [if_neg (show ¬ (fitEd x).kind ≤ 2 from by show ¬ fitK x.kind ≤ 2; omega)]
    have h2 : (fitEd x).label = m1 x.label := if_pos h
    have h3 : (fitEd x).val = vals4.getD (bsum x.val % 4) [] := if_pos h
    have h4 := m1_in x.label
    have h5 := vals4_ok (bsum x.val % 4) (Nat.mod_lt _ (by decide))
    have h6 : tLabel (fitEd x).label = 0 := if_pos (by rw [h2]; omega)
    rw [if_neg (by rw [h6]; decide)]
    exact if_pos (by rw [h3]; exact h5)
  · rw [if_pos (show (fitEd x).kind ≤ 2 from by show fitK x.kind ≤ 2; omega)]
    have h2 : (fitEd x).label = 0 := if_neg h
    have h3 : (fitEd x).val = [] := if_neg h
    unfold tBare
    rw [if_neg (by rw [h2]; decide), if_neg (by rw [h3]; decide)]
theorem fitC_get (c : Clk) (i : Nat) : (fitC c).get i = m20 (c.get i) := by
  unfold Clk.get fitC
  split <;> rfl
theorem fitEv_ok (x : Ev) : evMay (fitEv x) = 0 := by
  have hr := fitR_in x.r
  have hn := m20_in x.n
  have hh := m24_in x.h
  have h1 : evHead (fitEv x) = true := by
    simp only [evHead, Bool.and_eq_true, decide_eq_true_eq]
    refine ⟨⟨⟨⟨⟨⟨⟨show 0 ≤ fitR x.r by omega, show fitR x.r < 5 by omega⟩, show 1 ≤ 1 + m20 x.n by omega⟩, show 1 + m20 x.n ≤ 1048576 by omega⟩, ?_⟩, show 1 ≤ 1 + m24 x.h by omega⟩, show 1 + m24 x.h ≤ 16777216 by omega⟩, ?_⟩
    · show ((fitC x.c).set (fitR x.r).toNat (m20 x.n)).get (fitR x.r).toNat = 1 + m20 x.n - 1
      rw [Clk.get_set _ _ _ (by omega) (by omega), if_pos rfl]; omega
    · rw [Clk.all_iff]
      intro i hi
      show inEv (((fitC x.c).set (fitR x.r).toNat (m20 x.n)).get i) = true
      rw [Clk.get_set _ _ _ (by omega) hi]
      simp only [inEv, Bool.and_eq_true, decide_eq_true_eq]
      split
      · omega
      · rw [fitC_get]
        have := m20_in (x.c.get i)
        omega
  unfold evMay
  rw [if_pos h1]
  exact fitEd_ok x.ed
end Go.Proofs.Ytgdbbaggkoillaa
