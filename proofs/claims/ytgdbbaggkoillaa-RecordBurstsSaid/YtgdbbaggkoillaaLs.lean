/- A list of records that is handed in, opened. -/
import Derived.Test.YtgdbbaggkoillaaLr
import Derived.Test.YtgdbbaggkoillaaRi
namespace Go.Proofs.Ytgdbbaggkoillaa
open Go.ChangeShapes Go.WideShapes Go.ChangeAt Go.RowKit
open K
set_option maxRecDepth 100000
section
variable {H : Type} {enc : TypeId × Value → H} {w : World} {base : Nat} {sp : Nat → Bool} {held : Bool}
theorem open_recs {b0 : Nat} {v : Value} {d : DataW H} {p : List MemPlace} (hv : Value.okWide Try.prog w .any b0 59 v) (h : DataW.Trod enc Try.prog w base sp held 59 v d p)
    (hw : (d.weights Try.prog 59).all (· ≤ reachBytes) = true) : ∃ l : List RecM, Slr w v l ∧ ∀ m ∈ l, RecIn m.1 := by
  obtain ⟨a1, len, cap, rfl⟩ := okWide_slice Try.underlying59 hv
  obtain ⟨fuel, hf⟩ := h
  obtain ⟨a, l, c, h1, h2, _, h3, h4⟩ := trod_rows (C := rmC) (Q := fun (m : RecM) d => Cells w m.2.1 (evsC m.1.es) ∧ ((d.weights Try.prog 43).all (· ≤ reachBytes) = true → RecIn m.1)) Try.underlying59 cells43 (by decide) rmC_length
    (fun fuel cs y hh => by
      obtain ⟨x, a, cap, d', hx1, _, hcell, hy, hx3⟩ := trod_rec hh
      exact ⟨(x, a, cap), hx1, hcell, by rw [hy]; exact hx3⟩) (show DataW.trod enc Try.prog w base sp held fuel 59 [.slice a1 len cap] = some (d, p) from hf)
  injection h1 with h1 _
  have h5 : ∀ (i : Nat) (hi : i < l.length), Cells w l[i].2.1 (evsC l[i].1.es) ∧ RecIn l[i].1 := by
    intro i hi
    rcases h4 with ⟨rfl, _⟩ | ⟨ds, spare, hy, hdl, hq⟩
    · simp at hi
    · have hd : i < ds.length := by omega
      obtain ⟨e1, e2⟩ := hq i hi hd
      refine ⟨e1, e2 (List.all_eq_true.2 fun m hm => ?_)⟩
      have hy : d = .slice ds spare := hy
      rw [hy] at hw
      simp only [DataW.weights, Try.underlying59, List.all_cons, List.all_append, Bool.and_eq_true] at hw
      exact List.all_eq_true.1 hw.2.1 m (weightsAll_in (List.getElem_mem hd) m hm)
  refine ⟨l, ⟨a, c, h1, h3, fun m hm => ?_⟩, fun m hm => ?_⟩
  · obtain ⟨i, hi, rfl⟩ := List.mem_iff_getElem.1 hm
    exact (h5 i hi).1
  · obtain ⟨i, hi, rfl⟩ := List.mem_iff_getElem.1 hm
    exact (h5 i hi).2
end
end Go.Proofs.Ytgdbbaggkoillaa
