/- An event of which one thing may not be: plain. -/
import Derived.Test.YtgdbbaggkoillaaEx
namespace Go.Proofs.Ytgdbbaggkoillaa
open K
def oddV : List UInt8 := [116, 104, 105, 114, 116, 101, 101, 110, 32, 98, 121, 116, 101]
def oddEv (x : Ev) : Nat → Ev
  | 0 => { x with r := 5 }
  | 1 => { x with n := x.n + 1 }
  | 2 => { x with c := x.c.set ((x.r + 1).tmod 5).toNat (-1) }
  | 3 => { x with h := 0 }
  | 4 => { x with h := 16777217 }
  | 5 => { x with key := x.key ++ [33] }
  | 6 => { x with label := 2 }
  | _ => { x with val := oddV }
def oddE : Nat → Int
  | 5 => 10
  | 6 => 11
  | 7 => 12
  | _ => 1
theorem head_of_ok {x : Ev} (hk : EvOk x) : evHead x = true := by
  simp only [evHead, Bool.and_eq_true, decide_eq_true_eq]
  exact ⟨⟨⟨⟨⟨⟨⟨hk.r0, hk.r5⟩, hk.n1⟩, hk.n2⟩, hk.own⟩, hk.h1⟩, hk.h2⟩, (Clk.all_iff _ _).2 fun i hi => by have := hk.c i hi; simp [inEv]; omega⟩
theorem nohead {y : Ev} (h : evHead y = true → False) : evMay y = 1 := if_neg h
theorem tmod5 {r : Int} (h0 : 0 ≤ r) (h : r < 5) : 0 ≤ (r + 1).tmod 5 ∧ (r + 1).tmod 5 < 5 :=
  ⟨Int.tmod_nonneg _ (by omega), Int.tmod_lt_of_pos _ (by decide)⟩
theorem odd_may {x : Ev} (hx : evMay x = 0) : ∀ k, k < 8 → evMay (oddEv x k) = oddE k := by
  have hk := evMay_ok hx
  have hh := head_of_ok hk
  intro k hlt
  match k, hlt with
  | 0, _ =>
    refine nohead fun h => ?_
    simp only [evHead, Bool.and_eq_true, decide_eq_true_eq] at h
    have : (5 : Int) < 5 := h.1.1.1.1.1.1.2
    omega
  | 1, _ =>
    refine nohead fun h => ?_
    simp only [evHead, Bool.and_eq_true, decide_eq_true_eq] at h
    have h1 : x.c.get x.r.toNat = x.n + 1 - 1 := h.1.1.1.2
    have := hk.own
    omega
  | 2, _ =>
    refine nohead fun h => ?_
    simp only [evHead, Bool.and_eq_true] at h
    have ht := tmod5 hk.r0 hk.r5
    have h1 : inEv ((x.c.set ((x.r + 1).tmod 5).toNat (-1)).get ((x.r + 1).tmod 5).toNat) = true := (Clk.all_iff _ _).1 h.2 _ (by omega)
    rw [Clk.get_set _ _ _ (by omega) (by omega), if_pos rfl] at h1
    simp [inEv] at h1
  | 3, _ =>
    refine nohead fun h => ?_
    simp only [evHead, Bool.and_eq_true, decide_eq_true_eq] at h
    have : 1 ≤ (0 : Int) := h.1.1.2
    omega
  | 4, _ =>
    refine nohead fun h => ?_
    simp only [evHead, Bool.and_eq_true, decide_eq_true_eq] at h
    have : (16777217 : Int) ≤ 16777216 := h.1.2
    omega
  | 5, _ =>
    refine (if_pos hh).trans ?_
    have hk1 := hk.k1
    have hk5 := hk.k5
    have hno : keyOk (x.key ++ [33]) = false := by
      unfold keyOk
      rw [List.all_append]
      have : List.all [33] okByte = false := by decide
      rw [this]; simp
    have h1 : tKey (x.key ++ [33]) = 10 := if_neg (by rw [hno]; decide)
    refine (if_neg (show ¬ (x.kind < 1 ∨ 5 < x.kind) by omega)).trans ?_
    refine (if_pos (show tKey (x.key ++ [33]) ≠ 0 by rw [h1]; decide)).trans h1
  | 6, _ =>
    refine (if_pos hh).trans ?_
    have hk1 := hk.k1
    have hk5 := hk.k5
    have h1 : tKey x.key = 0 := if_pos (by simp only [keyOk, Bool.and_eq_true, decide_eq_true_eq]; exact ⟨⟨hk.key1, hk.key8⟩, hk.keya⟩)
    refine (if_neg (show ¬ (x.kind < 1 ∨ 5 < x.kind) by omega)).trans ?_
    refine (if_neg (show ¬ tKey x.key ≠ 0 by rw [h1]; decide)).trans ?_
    by_cases hb : x.kind ≤ 2
    · exact (if_pos (show x.kind ≤ 2 from hb)).trans (if_pos (show (2 : Int) ≠ 0 by decide))
    · exact (if_neg (show ¬ x.kind ≤ 2 from hb)).trans (if_pos (show tLabel 2 ≠ 0 by decide))
  | 7, _ =>
    refine (if_pos hh).trans ?_
    have hk1 := hk.k1
    have hk5 := hk.k5
    have h1 : tKey x.key = 0 := if_pos (by simp only [keyOk, Bool.and_eq_true, decide_eq_true_eq]; exact ⟨⟨hk.key1, hk.key8⟩, hk.keya⟩)
    refine (if_neg (show ¬ (x.kind < 1 ∨ 5 < x.kind) by omega)).trans ?_
    refine (if_neg (show ¬ tKey x.key ≠ 0 by rw [h1]; decide)).trans ?_
    by_cases hb : x.kind ≤ 2
    · refine (if_pos (show x.kind ≤ 2 from hb)).trans ?_
      refine (if_neg (show ¬ x.label ≠ 0 by rw [(hk.bare hb).1]; decide)).trans ?_
      exact if_pos (show oddV ≠ [] by decide)
    · refine (if_neg (show ¬ x.kind ≤ 2 from hb)).trans ?_
      have h2 : tLabel x.label = 0 := if_pos ⟨hk.l0, hk.l2⟩
      exact (if_neg (show ¬ tLabel x.label ≠ 0 by rw [h2]; decide)).trans (show tValue oddV = 12 by decide)
theorem oddE_ne : ∀ k, oddE k ≠ 0 := by
  intro k
  unfold oddE
  split <;> decide
end Go.Proofs.Ytgdbbaggkoillaa
