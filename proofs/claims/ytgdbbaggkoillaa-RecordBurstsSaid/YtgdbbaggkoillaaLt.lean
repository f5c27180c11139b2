/- Two words that are handed in, opened. -/
import Derived.Test.YtgdbbaggkoillaaLs
import Derived.Test.YtgdbbaggkoillaaRk
namespace Go.Proofs.Ytgdbbaggkoillaa
open Go.ChangeShapes Go.WideShapes Go.ChangeAt Go.RowKit
open K
set_option maxRecDepth 100000
section
variable {H : Type} {enc : TypeId × Value → H} {w : World} {base : Nat} {sp : Nat → Bool} {held : Bool}
theorem cells57 : Try.prog.cellsOf 57 = 1 := by kernel_rfl
theorem cells67 : Try.prog.cellsOf 67 = 2 := by kernel_rfl
theorem list2 {α : Type} {l : List α} (h : l.length = 2) : ∃ a0 a1, l = [a0, a1] := by
  match l, h with
  | [a0, a1], _ => exact ⟨a0, a1, rfl⟩
theorem u16_wf {n : Int} (h : (Lit.int .u16 n).wf = true) : 0 ≤ n ∧ n ≤ 65535 := by
  simpa [Lit.wf, IntKind.min, IntKind.max, IntKind.signed, IntKind.bits] using h
theorem ok_array {P : Program} {r : Reach} {t n e : TypeId} {b0 : Nat} {v : Value} (ht : P.underlying t = some (.array n e)) (h : Value.okWide P w r b0 t v) : ∃ cs, v = .agg cs := by
  simp only [Value.okWide, ht] at h
  obtain ⟨cs, h1, _⟩ := h
  exact ⟨cs, h1⟩
theorem open_arr2 {b0 : Nat} {v : Value} {d : DataW H} {p : List MemPlace} (hv : Value.okWide Try.prog w .any b0 67 v) (h : DataW.Trod enc Try.prog w base sp held 67 v d p) :
    ∃ x0 x1 : Nat, v = .agg (arr2 x0 x1).toArray ∧ x0 ≤ 65535 ∧ x1 ≤ 65535 := by
  obtain ⟨⟨l⟩, rfl⟩ := ok_array Try.underlying67 hv
  obtain ⟨fuel, hf⟩ := h
  obtain ⟨xs, m, _, hx, hl, hlen, hf⟩ := DataW.trod_array Try.underlying67 (show DataW.trod enc Try.prog w base sp held fuel 67 l = some (d, p) from hf)
  obtain ⟨y0, y1, rfl⟩ := list2 hlen
  rw [cells67] at hl
  obtain ⟨c0, c1, rfl⟩ := list2 hl
  simp only [cells57] at hf
  obtain ⟨n0, e0, rfl, w0⟩ := DataW.trod_int Try.underlying57 (hf 0 (by decide))
  obtain ⟨n1, e1, rfl, w1⟩ := DataW.trod_int Try.underlying57 (hf 1 (by decide))
  injection e0 with e0; injection e1 with e1
  subst e0; subst e1
  have h0 := u16_wf w0
  have h1 := u16_wf w1
  obtain ⟨x0, rfl⟩ := Int.eq_ofNat_of_zero_le h0.1
  obtain ⟨x1, rfl⟩ := Int.eq_ofNat_of_zero_le h1.1
  exact ⟨x0, x1, rfl, by omega, by omega⟩
end
end Go.Proofs.Ytgdbbaggkoillaa
