/- Bytes that are handed in, opened. -/
import Derived.Test.YtgdbbaggkoillaaLe
import Derived.Test.YtgdbbaggkoillaaTa
namespace Go.Proofs.Ytgdbbaggkoillaa
open Go.ChangeShapes Go.WideShapes Go.ChangeAt Go.RowKit
open K
set_option maxRecDepth 100000
section
variable {H : Type} {enc : TypeId × Value → H} {w : World} {base : Nat} {sp : Nat → Bool} {held : Bool}
theorem cells5 : Try.prog.cellsOf 5 = 1 := by kernel_rfl
theorem bytes5 : Try.prog.bytesOf 5 = 1 := by kernel_rfl
theorem u8_wf {n : Int} (h : (Lit.int .u8 n).wf = true) : 0 ≤ n ∧ n ≤ 255 := by
  simpa [Lit.wf, IntKind.min, IntKind.max, IntKind.signed, IntKind.bits] using h
theorem open_bytes {b0 : Nat} {v : Value} {d : DataW H} {p : List MemPlace} (hv : Value.okWide Try.prog w .any b0 28 v) (h : DataW.Trod enc Try.prog w base sp held 28 v d p)
    (hw : (d.weights Try.prog 28).all (· ≤ reachBytes) = true) : ∃ b : List UInt8, Sl w v b ∧ b.length < 2 ^ 47 := by
  obtain ⟨a1, len, cap, rfl⟩ := okWide_slice Try.underlying28 hv
  obtain ⟨fuel, hf⟩ := h
  rcases open_ints Try.underlying28 Try.underlying5 cells5 hf with ⟨hcs, hx⟩ | ⟨a, len', cap', zs, hcs, _, hl, hm, hz, hx, hcell, hwz⟩
  · simp [Value.cells] at hcs
    obtain ⟨rfl, rfl, rfl⟩ := hcs
    exact ⟨[], ⟨none, 0, rfl, Nat.le_refl _, Cells.nil _ _⟩, by decide⟩
  · simp [Value.cells] at hcs
    obtain ⟨rfl, rfl, rfl⟩ := hcs
    simp only [Prod.mk.injEq] at hx
    obtain ⟨rfl, rfl⟩ := hx
    have hzl : len ≤ zs.length := by split at hz <;> omega
    have hlen : ((zs.take len).map fun n => UInt8.ofNat n.toNat).length = len := by simp; omega
    refine ⟨(zs.take len).map fun n => UInt8.ofNat n.toNat, ⟨some a, cap, by rw [hlen], by rw [hlen]; exact hl, fun j u hj => ⟨a, rfl, ?_⟩⟩, ?_⟩
    · rw [nth_eq] at hj
      simp only [u8s, List.map_map, List.getElem?_map, Option.map_eq_some_iff] at hj
      obtain ⟨n, hn, rfl⟩ := hj
      rw [List.getElem?_take] at hn
      split at hn
      · rename_i hjl
        obtain ⟨hjz, hjn⟩ := List.getElem?_eq_some_iff.1 hn
        rw [hcell j hjz]
        have hnw := u8_wf (hwz n (List.mem_of_getElem? hn))
        have : zs.getD j 0 = n := by simp [List.getD, hn]
        rw [this]
        simp [u8]
        omega
      · cases hn
    · rw [hlen]
      simp only [DataW.weights, Try.underlying28, List.all_cons, Bool.and_eq_true, decide_eq_true_eq, bytes5] at hw
      have h1 := hw.1
      have h2 := reachBytes_lt
      simp [lits] at h1
      omega
end
end Go.Proofs.Ytgdbbaggkoillaa
