/- Records, plain: which may be, which bytes they are, any made one that may be. -/
import Derived.Test.YtgdbbaggkoillaaCr
import Derived.Test.YtgdbbaggkoillaaEf
import Derived.Test.YtgdbbaggkoillaaTr
namespace Go.Proofs.Ytgdbbaggkoillaa
open K

/-! ### lists of events in memory -/
def evsC (l : List Ev) : List Value := l.flatMap evC
theorem evC_length (x : Ev) : (evC x).length = 12 := rfl
theorem evsC_cons (x : Ev) (l : List Ev) : evsC (x :: l) = evC x ++ evsC l := List.flatMap_cons
theorem evsC_append (l m : List Ev) : evsC (l ++ m) = evsC l ++ evsC m := List.flatMap_append
theorem evsC_length : ∀ l : List Ev, (evsC l).length = l.length * 12
  | [] => rfl
  | x :: l => by rw [evsC_cons, List.length_append, evC_length, evsC_length l, List.length_cons]; omega
theorem seg_evs0 : ∀ (l : List Ev) (i : Nat) (h : i < l.length), seg (evsC l) (i * 12) 12 = evC l[i]
  | x :: l, 0, _ => by rw [evsC_cons]; rfl
  | x :: l, i + 1, h => by
    have h1 : i < l.length := by simpa using h
    have := seg_evs0 l i h1
    rw [evsC_cons]
    unfold seg at this ⊢
    rw [show (i + 1) * 12 = (evC x).length + i * 12 from by rw [evC_length]; omega, List.drop_append, List.drop_of_length_le (Nat.le_add_right _ _), List.nil_append, Nat.add_sub_cancel_left, this]
    rfl
theorem seg_evs (l : List Ev) (i : Nat) (h : i < l.length) : seg (evsC l) (((i : Nat) : Int).toNat * 12) 12 = evC l[i] := seg_evs0 l i h
theorem evs_le (l : List Ev) (i : Nat) (h : i < l.length) : ((i : Nat) : Int).toNat * 12 + 12 ≤ (evsC l).length := by rw [evsC_length]; show i * 12 + 12 ≤ _; omega
theorem evs_some {w : World} {a : Option Addr} {l : List Ev} (H : Cells w a (evsC l)) {i : Nat} (h : i < l.length) : a.isSome = true := by
  cases l with
  | nil => simp at h
  | cons x l => obtain ⟨ad, rfl, _⟩ := H 0 (.int .i64 x.r) (by rw [evsC_cons]; rfl); rfl
theorem evsC_take (l : List Ev) (n : Nat) : (evsC l).take (n * 12) = evsC (l.take n) := by
  induction l generalizing n with
  | nil => simp [evsC]
  | cons x l ih =>
    cases n with
    | zero => simp [evsC]
    | succ n =>
      rw [List.take_succ_cons, evsC_cons, evsC_cons, show (n + 1) * 12 = (evC x).length + n * 12 from by rw [evC_length]; omega, List.take_length_add_append, ih]
theorem ones_evs : ∀ l : List Ev, ones (evsC l) = true
  | [] => rfl
  | x :: l => by rw [evsC_cons]; exact ones_append rfl (ones_evs l)

/-! ### records -/
structure Rec where
  kind : Int
  r : Int
  upto : Int
  c : Clk
  es : List Ev
deriving DecidableEq
def recV (x : Rec) (a : Option Addr) (cap : Nat) : List Value := [.int .i64 x.kind, .int .i64 x.r, .int .i64 x.upto, .int .i64 x.c.c0, .int .i64 x.c.c1, .int .i64 x.c.c2, .int .i64 x.c.c3, .int .i64 x.c.c4, .slice a x.es.length cap]
/-- What a kind names: a number, a clock, events; and whether it is one. -/
def parts (k : Int) : Bool × Bool × Bool × Bool :=
  if k = 1 ∨ k = 2 ∨ k = 5 then (false, false, true, true) else if k = 3 then (true, false, false, true) else if k = 4 then (true, false, true, true) else if k = 6 then (false, true, false, true) else (false, false, false, false)
def recMay (x : Rec) : Bool :=
  (parts x.kind).2.2.2 && decide (0 ≤ x.r) && decide (x.r < 5) && inEv x.upto && ((parts x.kind).1 || decide (x.upto = 0)) && ((parts x.kind).2.1 || decide (x.c = clk0)) && ((parts x.kind).2.2.1 || decide (x.es.length = 0)) &&
  (decide (x.kind ≠ 1) || decide (x.es.length = 1)) && decide (x.es.length ≤ 4096) && x.c.all inEv && x.es.all (fun y => decide (evMay y = 0))
def clkB (c : Clk) (i : Nat) : List UInt8 := (List.range i).flatMap fun i : Nat => vput (c.get i).toNat
def evsB (l : List Ev) : List UInt8 := l.flatMap putE
def bodyR (x : Rec) : List UInt8 :=
  [UInt8.ofNat x.kind.toNat, UInt8.ofNat x.r.toNat] ++ (if (parts x.kind).1 then vput x.upto.toNat else []) ++ (if (parts x.kind).2.1 then clkB x.c 5 else []) ++ (if (parts x.kind).2.2.1 then vput x.es.length ++ evsB x.es else [])
def putR (x : Rec) : List UInt8 := vput (sealL (bodyR x)).length ++ sealL (bodyR x)
def recPut (x : Rec) : List UInt8 := if recMay x then putR x else []
theorem putR_len (x : Rec) : 7 ≤ (putR x).length := by
  have h1 := vput_pos (sealL (bodyR x)).length
  have h2 : 2 ≤ (bodyR x).length := by unfold bodyR; simp only [List.length_append, List.length_cons, List.length_nil]; omega
  unfold putR
  rw [List.length_append]
  have h3 := sealL_length (bodyR x)
  omega

structure RecOk (x : Rec) : Prop where
  is : (parts x.kind).2.2.2 = true
  r0 : 0 ≤ x.r
  r5 : x.r < 5
  u0 : 0 ≤ x.upto
  u1 : x.upto ≤ 1048576
  pu : (parts x.kind).1 = true ∨ x.upto = 0
  pc : (parts x.kind).2.1 = true ∨ x.c = clk0
  pe : (parts x.kind).2.2.1 = true ∨ x.es = []
  one : x.kind ≠ 1 ∨ x.es.length = 1
  most : x.es.length ≤ 4096
  c : ∀ i, i < 5 → 0 ≤ x.c.get i ∧ x.c.get i ≤ 1048576
  es : ∀ y ∈ x.es, evMay y = 0
theorem recMay_ok {x : Rec} (h : recMay x = true) : RecOk x := by
  simp only [recMay, Bool.and_eq_true, Bool.or_eq_true, decide_eq_true_eq] at h
  obtain ⟨⟨⟨⟨⟨⟨⟨⟨⟨⟨h1, h2⟩, h3⟩, h4⟩, h5⟩, h6⟩, h7⟩, h8⟩, h9⟩, h10⟩, h11⟩ := h
  simp only [inEv, Bool.and_eq_true, decide_eq_true_eq] at h4
  refine ⟨h1, h2, h3, h4.1, h4.2, h5, h6, h7.imp id List.eq_nil_of_length_eq_zero, h8, h9, fun i hi => ?_, fun y hy => ?_⟩
  · have := (Clk.all_iff _ _).1 h10 i hi
    simpa [inEv] using this
  · simpa using List.all_eq_true.1 h11 y hy
theorem recMay_of {x : Rec} (h : RecOk x) : recMay x = true := by
  simp only [recMay, Bool.and_eq_true, Bool.or_eq_true, decide_eq_true_eq]
  refine ⟨⟨⟨⟨⟨⟨⟨⟨⟨⟨h.is, h.r0⟩, h.r5⟩, ?_⟩, h.pu⟩, h.pc⟩, h.pe.imp id (fun e => by rw [e]; rfl)⟩, h.one⟩, h.most⟩, ?_⟩, ?_⟩
  · simp only [inEv, Bool.and_eq_true, decide_eq_true_eq]; exact ⟨h.u0, h.u1⟩
  · rw [Clk.all_iff]; intro i hi; have := h.c i hi; simpa [inEv] using this
  · rw [List.all_eq_true]; intro y hy; simpa using h.es y hy
/-- The code's first question, its second one. -/
def mayA (x : Rec) : Bool := (!(parts x.kind).2.2.2 || decide (x.r < 0) || decide (5 ≤ x.r) || !inEv x.upto || !(parts x.kind).1 && decide (x.upto ≠ 0) || !(parts x.kind).2.1 && !decide (x.c = clk0) || !(parts x.kind).2.2.1 && decide (0 < ((x.es.length : Nat) : Int)))
def mayB (x : Rec) : Bool := (decide (x.kind = 1) && decide (((x.es.length : Nat) : Int) ≠ 1) || decide (4096 < ((x.es.length : Nat) : Int)))
theorem recMay_abc (x : Rec) : recMay x = (!mayA x && !mayB x && x.c.all inEv && x.es.all (fun y => decide (evMay y = 0))) := by
  have e1 : decide (0 ≤ x.r) = !decide (x.r < 0) := by rw [← decide_not]; exact decide_eq_decide.2 (by omega)
  have e2 : decide (x.r < 5) = !decide (5 ≤ x.r) := by rw [← decide_not]; exact decide_eq_decide.2 (by omega)
  have e3 : decide (x.upto = 0) = !decide (x.upto ≠ 0) := by rw [← decide_not]; exact decide_eq_decide.2 (by omega)
  have e4 : decide (x.es.length = 0) = !decide (0 < ((x.es.length : Nat) : Int)) := by rw [← decide_not]; exact decide_eq_decide.2 (by omega)
  have e5 : decide (x.kind ≠ 1) = !decide (x.kind = 1) := by rw [← decide_not]
  have e6 : decide (x.es.length = 1) = !decide (((x.es.length : Nat) : Int) ≠ 1) := by rw [← decide_not]; exact decide_eq_decide.2 (by omega)
  have e7 : decide (x.es.length ≤ 4096) = !decide (4096 < ((x.es.length : Nat) : Int)) := by rw [← decide_not]; exact decide_eq_decide.2 (by omega)
  unfold recMay mayA mayB
  rw [e1, e2, e3, e4, e5, e6, e7]
  generalize (parts x.kind).2.2.2 = b1
  generalize (parts x.kind).1 = b2
  generalize (parts x.kind).2.1 = b3
  generalize (parts x.kind).2.2.1 = b4
  generalize decide (x.r < 0) = b5
  generalize decide (5 ≤ x.r) = b6
  generalize inEv x.upto = b7
  generalize decide (x.upto ≠ 0) = b8
  generalize decide (x.c = clk0) = b9
  generalize decide (0 < ((x.es.length : Nat) : Int)) = b10
  generalize decide (x.kind = 1) = b11
  generalize decide (((x.es.length : Nat) : Int) ≠ 1) = b12
  generalize decide (4096 < ((x.es.length : Nat) : Int)) = b13
  simp only [Bool.not_or, Bool.not_and, Bool.not_not, Bool.and_assoc]
theorem parts_in {k : Int} (h : (parts k).2.2.2 = true) : 1 ≤ k ∧ k ≤ 6 := by
  unfold parts at h
  split at h
  · omega
  · split at h
    · omega
    · split at h
      · omega
      · split at h
        · omega
        · cases h

/-! ### made ones -/
def fit6R (n : Int) : Int := 1 + ((n.tmod 6) + 6).tmod 6
theorem fit6R_in (n : Int) : 1 ≤ fit6R n ∧ fit6R n ≤ 6 := by
  unfold fit6R
  have h := tmod_in n 6 (by decide)
  have h1 := Int.tmod_nonneg 6 (show (0 : Int) ≤ n.tmod 6 + 6 by omega)
  have h2 := Int.tmod_lt_of_pos (n.tmod 6 + 6) (show (0 : Int) < 6 by decide)
  omega
def fitEs (l : List Ev) : List Ev := (l.take 30).map fitEv
def fitRec (x : Rec) : Rec :=
  let k := fit6R x.kind
  if k = 6 then ⟨6, fitR x.r, 0, fitC x.c, []⟩
  else if k = 3 then ⟨3, fitR x.r, m20 x.upto, clk0, []⟩
  else ⟨if k = 1 ∧ (fitEs x.es).length ≠ 1 then 2 else k, fitR x.r, if k = 4 then m20 x.upto else 0, clk0, fitEs x.es⟩
theorem clk0_in (i : Nat) : clk0.get i = 0 := by unfold Clk.get clk0; split <;> rfl
theorem fitEs_len (l : List Ev) : (fitEs l).length ≤ 30 := by rw [fitEs, List.length_map, List.length_take]; omega
theorem fitEs_ok (l : List Ev) : ∀ y ∈ fitEs l, evMay y = 0 := by
  intro y hy
  obtain ⟨x, _, rfl⟩ := List.mem_map.1 hy
  exact fitEv_ok x
theorem fitRec_ok (x : Rec) : RecOk (fitRec x) := by
  have hr := fitR_in x.r
  have hu := m20_in x.upto
  have hk := fit6R_in x.kind
  have hl := fitEs_len x.es
  unfold fitRec
  generalize fit6R x.kind = k at *
  simp only
  split
  · refine ⟨rfl, hr.1, hr.2, Int.le_refl 0, (by decide : (0 : Int) ≤ 1048576), .inr rfl, .inl rfl, .inr rfl, .inl (by decide : (6 : Int) ≠ 1), (by decide : 0 ≤ 4096), fun i hi => ?_, fun y hy => by cases hy⟩
    show 0 ≤ (fitC x.c).get i ∧ (fitC x.c).get i ≤ 1048576
    rw [fitC_get]
    have := m20_in (x.c.get i)
    omega
  · split
    · refine ⟨rfl, hr.1, hr.2, hu.1, ?_, .inl rfl, .inr rfl, .inr rfl, .inl (by show (3 : Int) ≠ 1; decide), by simp, fun i hi => ?_, fun y hy => by cases hy⟩
      · show m20 x.upto ≤ 1048576; omega
      · show 0 ≤ clk0.get i ∧ clk0.get i ≤ 1048576
        rw [clk0_in]; omega
    · rename_i h6 h3
      have hkk : ∀ k', k' = (if k = 1 ∧ (fitEs x.es).length ≠ 1 then 2 else k) → k' = 1 ∨ k' = 2 ∨ k' = 4 ∨ k' = 5 := by
        intro k' h
        split at h <;> omega
      have h1 : (if k = 1 ∧ (fitEs x.es).length ≠ 1 then 2 else k) ≠ 1 ∨ (fitEs x.es).length = 1 := by
        by_cases hq : (fitEs x.es).length = 1
        · exact .inr hq
        · left
          split <;> omega
      have h4 : k ≠ 4 ∨ (if k = 1 ∧ (fitEs x.es).length ≠ 1 then 2 else k) = 4 := by
        by_cases hq : k = 4
        · right; rw [if_neg (by omega)]; exact hq
        · exact .inl hq
      generalize hk' : (if k = 1 ∧ (fitEs x.es).length ≠ 1 then (2 : Int) else k) = k' at *
      have hk2 := hkk k' rfl
      have hp : (parts k').2.2.2 = true ∧ (parts k').2.2.1 = true ∧ (k' = 4 → (parts k').1 = true) := by
        rcases hk2 with rfl | rfl | rfl | rfl <;> decide
      refine ⟨hp.1, hr.1, hr.2, ?_, ?_, ?_, .inr rfl, .inl hp.2.1, h1, by show (fitEs x.es).length ≤ 4096; omega, fun i hi => ?_, fitEs_ok x.es⟩
      · show 0 ≤ (if k = 4 then m20 x.upto else 0); split <;> omega
      · show (if k = 4 then m20 x.upto else 0) ≤ 1048576; split <;> omega
      · show (parts k').1 = true ∨ (if k = 4 then m20 x.upto else 0) = 0
        rcases h4 with h4 | h4
        · right; exact if_neg h4
        · exact .inl (hp.2.2 h4)
      · show 0 ≤ clk0.get i ∧ clk0.get i ≤ 1048576
        rw [clk0_in]; omega
end Go.Proofs.Ytgdbbaggkoillaa
