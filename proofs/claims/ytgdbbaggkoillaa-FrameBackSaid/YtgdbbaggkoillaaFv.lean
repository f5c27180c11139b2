/- Frames, plain: which may be, which bytes they are, what any bytes are. -/
import Derived.Test.YtgdbbaggkoillaaRv
namespace Go.Proofs.Ytgdbbaggkoillaa
open K

/-- What a kind's frame carries: 1 events, 2 a number, 3 a clock. -/
def fHas (k : Int) : Int := if k = 1 then 1 else if k = 2 then 2 else if k = 3 then 3 else if k = 4 then 1 else if k = 5 then 3 else 0
def frMay (x : Rec) : Bool :=
  decide (fHas x.kind ≠ 0) && decide (0 ≤ x.r) && decide (x.r < 5) && (decide (fHas x.kind = 1) || decide (x.es.length = 0)) && (decide (fHas x.kind = 2) || decide (x.upto = 0)) && (decide (fHas x.kind = 3) || decide (x.c = clk0)) &&
  (decide (x.kind ≠ 1) || decide (x.es.length ≠ 0)) && decide (x.es.length ≤ 20) && inEv x.upto && x.c.all inEv && x.es.all (fun y => decide (evMay y = 0) && (decide (x.kind ≠ 1) || decide (y.r = x.r)))
def bodyF (x : Rec) : List UInt8 :=
  [UInt8.ofNat x.kind.toNat, UInt8.ofNat x.r.toNat] ++ (if fHas x.kind = 2 then vput x.upto.toNat else if fHas x.kind = 3 then clkB x.c 5 else UInt8.ofNat x.es.length :: evsB x.es)
def putF (x : Rec) : List UInt8 := sealL (vput (bodyF x).length ++ bodyF x)
def frPut (x : Rec) : List UInt8 := if frMay x then putF x else []

structure FrOk (x : Rec) : Prop where
  is : fHas x.kind ≠ 0
  r0 : 0 ≤ x.r
  r5 : x.r < 5
  h1 : fHas x.kind = 1 ∨ x.es = []
  h2 : fHas x.kind = 2 ∨ x.upto = 0
  h3 : fHas x.kind = 3 ∨ x.c = clk0
  push : x.kind ≠ 1 ∨ x.es ≠ []
  most : x.es.length ≤ 20
  u0 : 0 ≤ x.upto
  u1 : x.upto ≤ 1048576
  c : ∀ i, i < 5 → 0 ≤ x.c.get i ∧ x.c.get i ≤ 1048576
  es : ∀ y ∈ x.es, evMay y = 0
  own : x.kind = 1 → ∀ y ∈ x.es, y.r = x.r
theorem frMay_ok {x : Rec} (h : frMay x = true) : FrOk x := by
  simp only [frMay, Bool.and_eq_true, Bool.or_eq_true, decide_eq_true_eq] at h
  obtain ⟨⟨⟨⟨⟨⟨⟨⟨⟨⟨h1, h2⟩, h3⟩, h4⟩, h5⟩, h6⟩, h7⟩, h8⟩, h9⟩, h10⟩, h11⟩ := h
  simp only [inEv, Bool.and_eq_true, decide_eq_true_eq] at h9
  have h12 := fun y (hy : y ∈ x.es) => List.all_eq_true.1 h11 y hy
  simp only [Bool.and_eq_true, Bool.or_eq_true, decide_eq_true_eq] at h12
  refine ⟨h1, h2, h3, h4.imp id List.eq_nil_of_length_eq_zero, h5, h6, h7.imp id (fun h he => h (by rw [he]; rfl)), h8, h9.1, h9.2, fun i hi => ?_, fun y hy => (h12 y hy).1, fun hk y hy => ((h12 y hy).2).resolve_left (fun h => h hk)⟩
  have := (Clk.all_iff _ _).1 h10 i hi
  simpa [inEv] using this
theorem frMay_of {x : Rec} (h : FrOk x) : frMay x = true := by
  simp only [frMay, Bool.and_eq_true, Bool.or_eq_true, decide_eq_true_eq]
  refine ⟨⟨⟨⟨⟨⟨⟨⟨⟨⟨h.is, h.r0⟩, h.r5⟩, h.h1.imp id (fun e => by rw [e]; rfl)⟩, h.h2⟩, h.h3⟩, h.push.imp id (fun he hl => he (List.eq_nil_of_length_eq_zero hl))⟩, h.most⟩, ?_⟩, ?_⟩, ?_⟩
  · simp only [inEv, Bool.and_eq_true, decide_eq_true_eq]; exact ⟨h.u0, h.u1⟩
  · rw [Clk.all_iff]; intro i hi; have := h.c i hi; simpa [inEv] using this
  · rw [List.all_eq_true]
    intro y hy
    simp only [Bool.and_eq_true, Bool.or_eq_true, decide_eq_true_eq]
    refine ⟨h.es y hy, ?_⟩
    by_cases hk : x.kind = 1
    · exact .inr (h.own hk y hy)
    · exact .inl hk
theorem fHas_in {k : Int} (h : fHas k ≠ 0) : 1 ≤ k ∧ k ≤ 5 := by
  unfold fHas at h
  split at h
  · omega
  · split at h
    · omega
    · split at h
      · omega
      · split at h
        · omega
        · split at h
          · omega
          · exact absurd rfl h
theorem fHas_123 (k : Int) : fHas k = 0 ∨ fHas k = 1 ∨ fHas k = 2 ∨ fHas k = 3 := by
  unfold fHas
  split
  · exact .inr (.inl rfl)
  · split
    · exact .inr (.inr (.inl rfl))
    · split
      · exact .inr (.inr (.inr rfl))
      · split
        · exact .inr (.inl rfl)
        · split
          · exact .inr (.inr (.inr rfl))
          · exact .inl rfl
/-- The code's questions. -/
def mayFA (x : Rec) : Bool := (decide (fHas x.kind = 0) || decide (x.r < 0) || decide (5 ≤ x.r) || decide (fHas x.kind ≠ 1) && decide (0 < ((x.es.length : Nat) : Int)) || decide (fHas x.kind ≠ 2) && decide (x.upto ≠ 0) || decide (fHas x.kind ≠ 3) && !decide (x.c = clk0))
def mayFB (x : Rec) : Bool := (decide (x.kind = 1) && decide (((x.es.length : Nat) : Int) = 0) || decide (20 < ((x.es.length : Nat) : Int)) || !inEv x.upto)
theorem frMay_abc (x : Rec) : frMay x = (!mayFA x && !mayFB x && x.c.all inEv && x.es.all (fun y => decide (evMay y = 0) && (decide (x.kind ≠ 1) || decide (y.r = x.r)))) := by
  have e1 : decide (0 ≤ x.r) = !decide (x.r < 0) := by rw [← decide_not]; exact decide_eq_decide.2 (by omega)
  have e2 : decide (x.r < 5) = !decide (5 ≤ x.r) := by rw [← decide_not]; exact decide_eq_decide.2 (by omega)
  have e3 : decide (x.upto = 0) = !decide (x.upto ≠ 0) := by rw [← decide_not]; exact decide_eq_decide.2 (by omega)
  have e4 : decide (x.es.length = 0) = !decide (0 < ((x.es.length : Nat) : Int)) := by rw [← decide_not]; exact decide_eq_decide.2 (by omega)
  have e5 : decide (x.kind ≠ 1) = !decide (x.kind = 1) := by rw [← decide_not]
  have e6 : decide (x.es.length ≠ 0) = !decide (((x.es.length : Nat) : Int) = 0) := by rw [← decide_not]; exact decide_eq_decide.2 (by omega)
  have e7 : decide (x.es.length ≤ 20) = !decide (20 < ((x.es.length : Nat) : Int)) := by rw [← decide_not]; exact decide_eq_decide.2 (by omega)
  have e8 : decide (fHas x.kind ≠ 0) = !decide (fHas x.kind = 0) := by rw [← decide_not]
  have e9 : ∀ n : Int, decide (fHas x.kind = n) = !decide (fHas x.kind ≠ n) := fun n => by rw [← decide_not]; exact decide_eq_decide.2 (by omega)
  unfold frMay mayFA mayFB
  rw [e1, e2, e3, e4, e6, e7, e8, e9 1, e9 2, e9 3]
  generalize (x.es.all fun y => decide (evMay y = 0) && (decide (x.kind ≠ 1) || decide (y.r = x.r))) = b0
  rw [e5]
  generalize decide (fHas x.kind = 0) = b1
  generalize decide (fHas x.kind ≠ 1) = b2
  generalize decide (fHas x.kind ≠ 2) = b3
  generalize decide (fHas x.kind ≠ 3) = b4
  generalize decide (x.r < 0) = b5
  generalize decide (5 ≤ x.r) = b6
  generalize inEv x.upto = b7
  generalize decide (x.upto ≠ 0) = b8
  generalize decide (x.c = clk0) = b9
  generalize decide (0 < ((x.es.length : Nat) : Int)) = b10
  generalize decide (x.kind = 1) = b11
  generalize decide (((x.es.length : Nat) : Int) = 0) = b12
  generalize decide (20 < ((x.es.length : Nat) : Int)) = b13
  simp only [Bool.not_or, Bool.not_and, Bool.not_not, Bool.and_assoc]
end Go.Proofs.Ytgdbbaggkoillaa
