/- A frame that is handed in, opened. -/
import Derived.Test.YtgdbbaggkoillaaLr
namespace Go.Proofs.Ytgdbbaggkoillaa
open Go.ChangeShapes Go.WideShapes Go.ChangeAt Go.RowKit
open K
set_option maxRecDepth 100000
section
variable {H : Type} {enc : TypeId × Value → H} {w : World} {base : Nat} {sp : Nat → Bool} {held : Bool}
theorem cells47 : Try.prog.cellsOf 47 = 9 := by kernel_rfl
def frD (H : Type) (x : Rec) (d : DataW H) : DataW H := recD H x d
theorem trod_frame {n : Nat} {cs : List Value} {y : DataW H × List MemPlace} (h : DataW.trod enc Try.prog w base sp held n 47 cs = some y) :
    ∃ (x : Rec) (a : Option Addr) (cap : Nat) (d : DataW H), cs = recV x a cap ∧ x.es.length ≤ cap ∧ Cells w a (evsC x.es) ∧ y.1 = recD H x d ∧ (((recD H x d).weights Try.prog 47).all (· ≤ reachBytes) = true → RecIn x) := by
  obtain ⟨xs, m, _, hx, hl, hlen, hf⟩ := DataW.trod_struct Try.underlying47 h
  obtain ⟨y0, y1, y2, y3, y4, rfl⟩ := list5 hlen
  rw [cells47] at hl
  obtain ⟨c0, c1, c2, c3, c4, c5, c6, c7, c8, rfl⟩ := list9 hl
  have g0 : DataW.trod enc Try.prog w base sp held m 3 (List.take (Try.prog.cellsOf 3) _) = _ := hf 0 _ rfl
  rw [cells3] at g0
  have g1 : DataW.trod enc Try.prog w base sp held m 3 (List.take (Try.prog.cellsOf 3) _) = _ := hf 1 _ rfl
  rw [cells3] at g1
  have g2 : DataW.trod enc Try.prog w base sp held m 3 (List.take (Try.prog.cellsOf 3) _) = _ := hf 2 _ rfl
  rw [cells3] at g2
  have g3 : DataW.trod enc Try.prog w base sp held m 23 (List.take (Try.prog.cellsOf 23) _) = _ := hf 3 _ rfl
  rw [cells23] at g3
  have g4 : DataW.trod enc Try.prog w base sp held m 41 (List.take (Try.prog.cellsOf 41) _) = _ := hf 4 _ rfl
  rw [cells41] at g4
  obtain ⟨n0, e0, rfl, w0⟩ := DataW.trod_int Try.underlying3 g0
  obtain ⟨n1, e1, rfl, w1⟩ := DataW.trod_int Try.underlying3 g1
  obtain ⟨n2, e2, rfl, w2⟩ := DataW.trod_int Try.underlying3 g2
  obtain ⟨c, e3, rfl, w3⟩ := trod_clk g3
  obtain ⟨a, l, cap, e4, hcap, hcell, w4⟩ := trod_evs g4
  refine ⟨⟨n0, n1, n2, c, l⟩, a, cap, y4.1, ?_, hcap, hcell, by rw [hx]; rfl, ?_⟩
  · injection e0 with e0; injection e1 with e1; injection e2 with e2; injection e4 with e4
    injection e3 with q0 e3; injection e3 with q1 e3; injection e3 with q2 e3; injection e3 with q3 e3; injection e3 with q4 e3
    subst e0; subst e1; subst e2; subst e4; subst q0; subst q1; subst q2; subst q3; subst q4
    rfl
  · intro hw
    simp only [recD, DataW.weights, Try.underlying47, Try.underlying23, Try.underlying3, DataW.weightsEach, DataW.weightsAll, List.map, List.nil_append, List.append_nil] at hw
    obtain ⟨h47, hes⟩ := w4 hw
    exact ⟨i64_wf w0, i64_wf w1, i64_wf w2, w3, h47, hes⟩
theorem open_frame {b0 : Nat} {v : Value} {d : DataW H} {p : List MemPlace} (hv : Value.okWide Try.prog w .any b0 47 v) (h : DataW.Trod enc Try.prog w base sp held 47 v d p)
    (hw : (d.weights Try.prog 47).all (· ≤ reachBytes) = true) : ∃ (x : Rec) (a : Option Addr) (cap : Nat), v = .agg (recV x a cap).toArray ∧ x.es.length ≤ cap ∧ Cells w a (evsC x.es) ∧ RecIn x := by
  obtain ⟨⟨l⟩, rfl, hsz⟩ := okWide_struct Try.underlying47 hv
  obtain ⟨fuel, hf⟩ := h
  obtain ⟨x, a, cap, d', hc, hcap, hcell, hy, hin⟩ := trod_frame (show DataW.trod enc Try.prog w base sp held fuel 47 l = some (d, p) from hf)
  subst hc
  have hy : d = recD H x d' := hy
  subst hy
  exact ⟨x, a, cap, rfl, hcap, hcell, hin hw⟩
end
end Go.Proofs.Ytgdbbaggkoillaa
