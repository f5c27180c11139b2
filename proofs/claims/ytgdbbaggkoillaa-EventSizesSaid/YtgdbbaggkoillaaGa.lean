/- kithlaw06.EventSizes holds of every event that is handed in: no condition. -/
import Derived.Test.YtgdbbaggkoillaaFa
import Derived.Test.YtgdbbaggkoillaaLe
namespace Go.Proofs.Ytgdbbaggkoillaa
open Go.ChangeShapes Go.WideShapes Go.ChangeAt Go.RowKit
open K

theorem Try.own : ownKnob Try.prog.godebug = none := by kernel_rfl
theorem Try.laidOut : laidOutB Try.prog = true := by kernel_rfl
theorem evOk (x : Ev) : (Value.agg (evC x).toArray).cells.toList = evC x := rfl

set_option maxRecDepth 100000 in
theorem eventSizes_lifted (os : Os) (started : os.Started) (H : Type) (enc : TypeId × Value → H) :
    ReturnsInHanded {} Try.checked os 3 .any (Rows.eventSizesSpec.pre6 enc Try.prog Try.f3 Rows.eventSizesRow.domain false) (Rows.eventSizesSpec.post enc Try.prog Try.f3 false true false false) := by
  refine returnsInHanded_of_change_sized (C := Try.checked) Try.own started (by kernel_rfl) Try.func3
    (ChangeSpec.witness6 (enc := enc) (C := Try.checked) false ⟨#[], #[.agg (evC ⟨0, 0, clk0, 0, 0, [], 0, []⟩).toArray], []⟩ 8 (by kernel_rfl) (by kernel_rfl) (by kernel_rfl) (by kernel_rfl)) ?_
  intro W base args ds gs before hval0 hW _ hsz _
  have hval : ∀ (j : Nat) t v, Try.f3.params[j]? = some t → args[j]? = some v → Value.okWide Try.prog W .any base t v := hval0
  have hW' := hW
  obtain ⟨p, q, hA0, hV, rfl, hfz, hnd⟩ := hW
  have hA : DataW.TrodAll enc Try.prog W 0 (fun _ => true) true Try.f3.params.toList args.toList ds p := hA0
  rw [Try.params3] at hA hval
  obtain ⟨v0, d0, rfl, rfl, h0⟩ := trodAll_one hA
  obtain ⟨rfl, rfl⟩ := trodVars_none hV
  obtain ⟨x, rfl, rfl, rfl, hx⟩ := open_ev (hval 0 _ v0 rfl rfl) h0
  have hin : EvIn x := hx (List.all_eq_true.2 fun n hn => List.all_eq_true.1 hsz n (DataW.weights_mem_each (j := 0) rfl rfl n hn))
  refine (c_EventSizes x hin W).mono fun v W' ⟨hv, hc⟩ => ?_
  subst hv
  exact law_post Try.laidOut rfl rfl Try.underlying4 (by kernel_rfl) hW' rfl rfl rfl hc

theorem eventSizes_holds : Rows.EventSizesSaid :=
  OpenClaim.holds_of_wide 3 Try.f3 rfl rfl rfl rfl rfl rfl rfl ⟨rfl, rfl, rfl, rfl, rfl⟩ rfl rfl rfl rfl rfl (by kernel_rfl) Try.func3 (by kernel_rfl)
    (of_decide_eq_true (by kernel_rfl)) (by unfold Func.isWrapper; first | (rw [if_pos (by decide +kernel)]; kernel_rfl) | (rw [if_neg (by decide +kernel)]; exact ⟨rfl, rfl⟩))
    (fun os started H enc _ => eventSizes_lifted os started H enc)
end Go.Proofs.Ytgdbbaggkoillaa

