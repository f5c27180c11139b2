/- An event that is handed in, opened. -/
import Derived.Test.YtgdbbaggkoillaaKl
import Derived.Test.YtgdbbaggkoillaaEv
import Derived.OpenShut
namespace Go.Proofs.Ytgdbbaggkoillaa
open Go.ChangeShapes Go.WideShapes Go.ChangeAt Go.RowKit
open K
set_option maxRecDepth 100000

theorem Try.own : ownKnob Try.prog.godebug = none := by kernel_rfl
theorem Try.laidOut : laidOutB Try.prog = true := by kernel_rfl
theorem list12 {α : Type} {l : List α} (h : l.length = 12) : ∃ a0 a1 a2 a3 a4 a5 a6 a7 a8 a9 a10 a11, l = [a0, a1, a2, a3, a4, a5, a6, a7, a8, a9, a10, a11] := by
  match l, h with
  | [a0, a1, a2, a3, a4, a5, a6, a7, a8, a9, a10, a11], _ => exact ⟨a0, a1, a2, a3, a4, a5, a6, a7, a8, a9, a10, a11, rfl⟩
theorem list8 {α : Type} {l : List α} (h : l.length = 8) : ∃ a0 a1 a2 a3 a4 a5 a6 a7, l = [a0, a1, a2, a3, a4, a5, a6, a7] := by
  match l, h with
  | [a0, a1, a2, a3, a4, a5, a6, a7], _ => exact ⟨a0, a1, a2, a3, a4, a5, a6, a7, rfl⟩
theorem list5 {α : Type} {l : List α} (h : l.length = 5) : ∃ a0 a1 a2 a3 a4, l = [a0, a1, a2, a3, a4] := by
  match l, h with
  | [a0, a1, a2, a3, a4], _ => exact ⟨a0, a1, a2, a3, a4, rfl⟩
def i64 (n : Int) : Prop := -9223372036854775808 ≤ n ∧ n ≤ 9223372036854775807
theorem i64_wf {n : Int} (h : (Lit.int .i64 n).wf = true) : i64 n := by
  simpa [Lit.wf, IntKind.min, IntKind.max, IntKind.signed, IntKind.bits, i64] using h
theorem cells3 : Try.prog.cellsOf 3 = 1 := by kernel_rfl
theorem cells9 : Try.prog.cellsOf 9 = 1 := by kernel_rfl
theorem cells23 : Try.prog.cellsOf 23 = 5 := by kernel_rfl
theorem cells25 : Try.prog.cellsOf 25 = 12 := by kernel_rfl
structure EvIn (x : Ev) : Prop where
  r : i64 x.r
  n : i64 x.n
  c : ∀ i, i < 5 → i64 (x.c.get i)
  h : i64 x.h
  kind : i64 x.kind
  key : x.key.length < 2 ^ 47
  label : i64 x.label
  val : x.val.length < 2 ^ 47
section
variable {H : Type} {enc : TypeId × Value → H} {w : World} {base : Nat} {sp : Nat → Bool} {held : Bool}
def evD (H : Type) (x : Ev) : DataW H := .agg [.lit (.int .i64 x.r), .lit (.int .i64 x.n), .agg [.lit (.int .i64 x.c.c0), .lit (.int .i64 x.c.c1), .lit (.int .i64 x.c.c2), .lit (.int .i64 x.c.c3), .lit (.int .i64 x.c.c4)], .lit (.int .i64 x.h), .lit (.int .i64 x.kind), .lit (.string x.key), .lit (.int .i64 x.label), .lit (.string x.val)]
theorem trod_clk {n : Nat} {cs : List Value} {y : DataW H × List MemPlace} (h : DataW.trod enc Try.prog w base sp held n 23 cs = some y) :
    ∃ c : Clk, cs = clkC c ∧ y = (.agg [.lit (.int .i64 c.c0), .lit (.int .i64 c.c1), .lit (.int .i64 c.c2), .lit (.int .i64 c.c3), .lit (.int .i64 c.c4)], []) ∧ ∀ i, i < 5 → i64 (c.get i) := by
  obtain ⟨xs, m, _, hx, hl, hlen, hf⟩ := DataW.trod_array Try.underlying23 h
  obtain ⟨y0, y1, y2, y3, y4, rfl⟩ := list5 hlen
  rw [cells23] at hl
  obtain ⟨c0, c1, c2, c3, c4, rfl⟩ := list5 hl
  simp only [cells3] at hf
  obtain ⟨n0, e0, rfl, w0⟩ := DataW.trod_int Try.underlying3 (hf 0 (by decide))
  obtain ⟨n1, e1, rfl, w1⟩ := DataW.trod_int Try.underlying3 (hf 1 (by decide))
  obtain ⟨n2, e2, rfl, w2⟩ := DataW.trod_int Try.underlying3 (hf 2 (by decide))
  obtain ⟨n3, e3, rfl, w3⟩ := DataW.trod_int Try.underlying3 (hf 3 (by decide))
  obtain ⟨n4, e4, rfl, w4⟩ := DataW.trod_int Try.underlying3 (hf 4 (by decide))
  refine ⟨⟨n0, n1, n2, n3, n4⟩, ?_, hx, ?_⟩
  · injection e0 with e0; injection e1 with e1; injection e2 with e2; injection e3 with e3; injection e4 with e4
    subst e0; subst e1; subst e2; subst e3; subst e4; rfl
  · intro i hi
    match i, hi with
    | 0, _ => exact i64_wf w0 | 1, _ => exact i64_wf w1 | 2, _ => exact i64_wf w2 | 3, _ => exact i64_wf w3 | 4, _ => exact i64_wf w4

theorem trod_ev {n : Nat} {cs : List Value} {y : DataW H × List MemPlace} (h : DataW.trod enc Try.prog w base sp held n 25 cs = some y) :
    ∃ x : Ev, cs = evC x ∧ y = (evD H x, []) ∧ (((evD H x).weights Try.prog 25).all (· ≤ reachBytes) = true → EvIn x) := by
  obtain ⟨xs, m, _, hx, hl, hlen, hf⟩ := DataW.trod_struct Try.underlying25 h
  obtain ⟨y0, y1, y2, y3, y4, y5, y6, y7, rfl⟩ := list8 hlen
  rw [cells25] at hl
  obtain ⟨c0, c1, c2, c3, c4, c5, c6, c7, c8, c9, c10, c11, rfl⟩ := list12 hl
  have g0 : DataW.trod enc Try.prog w base sp held m 3 (List.take (Try.prog.cellsOf 3) _) = _ := hf 0 _ rfl
  rw [cells3] at g0
  have g1 : DataW.trod enc Try.prog w base sp held m 3 (List.take (Try.prog.cellsOf 3) _) = _ := hf 1 _ rfl
  rw [cells3] at g1
  have g2 : DataW.trod enc Try.prog w base sp held m 23 (List.take (Try.prog.cellsOf 23) _) = _ := hf 2 _ rfl
  rw [cells23] at g2
  have g3 : DataW.trod enc Try.prog w base sp held m 3 (List.take (Try.prog.cellsOf 3) _) = _ := hf 3 _ rfl
  rw [cells3] at g3
  have g4 : DataW.trod enc Try.prog w base sp held m 3 (List.take (Try.prog.cellsOf 3) _) = _ := hf 4 _ rfl
  rw [cells3] at g4
  have g5 : DataW.trod enc Try.prog w base sp held m 9 (List.take (Try.prog.cellsOf 9) _) = _ := hf 5 _ rfl
  rw [cells9] at g5
  have g6 : DataW.trod enc Try.prog w base sp held m 3 (List.take (Try.prog.cellsOf 3) _) = _ := hf 6 _ rfl
  rw [cells3] at g6
  have g7 : DataW.trod enc Try.prog w base sp held m 9 (List.take (Try.prog.cellsOf 9) _) = _ := hf 7 _ rfl
  rw [cells9] at g7
  obtain ⟨n0, e0, rfl, w0⟩ := DataW.trod_int Try.underlying3 g0
  obtain ⟨n1, e1, rfl, w1⟩ := DataW.trod_int Try.underlying3 g1
  obtain ⟨c, e2, rfl, w2⟩ := trod_clk g2
  obtain ⟨n3, e3, rfl, w3⟩ := DataW.trod_int Try.underlying3 g3
  obtain ⟨n4, e4, rfl, w4⟩ := DataW.trod_int Try.underlying3 g4
  obtain ⟨n5, e5, rfl, w5⟩ := DataW.trod_string Try.underlying9 g5
  obtain ⟨n6, e6, rfl, w6⟩ := DataW.trod_int Try.underlying3 g6
  obtain ⟨n7, e7, rfl, w7⟩ := DataW.trod_string Try.underlying9 g7
  refine ⟨⟨n0, n1, c, n3, n4, n5.data.toList, n6, n7.data.toList⟩, ?_, hx, ?_⟩
  · injection e0 with e0; injection e1 with e1; injection e3 with e3; injection e4 with e4; injection e5 with e5; injection e6 with e6; injection e7 with e7
    injection e2 with q0 e2; injection e2 with q1 e2; injection e2 with q2 e2; injection e2 with q3 e2; injection e2 with q4 e2
    subst e0; subst e1; subst e3; subst e4; subst e5; subst e6; subst e7; subst q0; subst q1; subst q2; subst q3; subst q4
    rfl
  · intro hw
    simp only [evD, DataW.weights, Try.underlying25, Try.underlying23, Try.underlying3, DataW.weightsEach, DataW.weightsAll, List.map, List.nil_append, List.append_nil, List.all_append, List.all_cons, List.all_nil, Bool.and_true, Bool.and_eq_true, decide_eq_true_eq] at hw
    exact ⟨i64_wf w0, i64_wf w1, w2, i64_wf w3, i64_wf w4, Nat.lt_of_le_of_lt hw.1 reachBytes_lt, i64_wf w6, Nat.lt_of_le_of_lt hw.2 reachBytes_lt⟩
theorem open_ev {b0 : Nat} {v : Value} {d : DataW H} {p : List MemPlace} (hv : Value.okWide Try.prog w .any b0 25 v) (h : DataW.Trod enc Try.prog w base sp held 25 v d p) :
    ∃ x : Ev, v = .agg (evC x).toArray ∧ d = evD H x ∧ p = [] ∧ (((evD H x).weights Try.prog 25).all (· ≤ reachBytes) = true → EvIn x) := by
  obtain ⟨⟨l⟩, rfl, hsz⟩ := okWide_struct Try.underlying25 hv
  obtain ⟨fuel, hf⟩ := h
  obtain ⟨x, hc, hy, hw⟩ := trod_ev (show DataW.trod enc Try.prog w base sp held fuel 25 l = some (d, p) from hf)
  subst hc
  injection hy with h1 h2
  exact ⟨x, rfl, h1, h2, hw⟩
end
end Go.Proofs.Ytgdbbaggkoillaa
