/- kithlaw20.HubNew holds of all that is handed in: no condition. -/
import Derived.Test.YtbcpabfemejlgaaM18
import Derived.Test.YtbcpabfemejlgaaM8
namespace Go.Proofs.Ytbcpabfemejlgaa
open Go.ChangeShapes Go.WideShapes Go.ChangeAt Go.RowKit
open K

set_option maxRecDepth 100000 in
theorem hubNew_lifted (os : Os) (started : os.Started) (H : Type) (enc : TypeId × Value → H) :
    ReturnsInHanded {} Try.checked os 3 .any (Rows.hubNewSpec.pre6 enc Try.prog Try.f3 Rows.hubNewRow.domain false) (Rows.hubNewSpec.post enc Try.prog Try.f3 false true false false) := by
  refine returnsInHanded_of_change_sized (C := Try.checked) Try.own started (by kernel_rfl) Try.func3
    (ChangeSpec.witness6 (enc := enc) (C := Try.checked) false ⟨#[], #[.agg (cfC ⟨0, 0, 0, 0, 0, 0⟩).toArray], []⟩ 8 (by kernel_rfl) (by kernel_rfl) (by kernel_rfl) (by kernel_rfl)) ?_
  intro W base args ds gs before hval0 hW _ hsz _
  have hval : ∀ (j : Nat) t v, Try.f3.params[j]? = some t → args[j]? = some v → Value.okWide Try.prog W .any base t v := hval0
  have hW' := hW
  obtain ⟨p, q, hA0, hV, rfl, hfz, hnd⟩ := hW
  have hA : DataW.TrodAll enc Try.prog W 0 (fun _ => true) true Try.f3.params.toList args.toList ds p := hA0
  rw [Try.params3] at hA hval
  obtain ⟨v0, d0, rfl, rfl, h0⟩ := trodAll_one hA
  obtain ⟨rfl, rfl⟩ := trodVars_none hV
  obtain ⟨x0, rfl⟩ := open_cfg (hval 0 _ v0 rfl rfl) h0
  refine (c_HubNew x0 W).mono fun v W' ⟨hv, hc⟩ => ?_
  subst hv
  exact law_post Try.laidOut rfl rfl Try.underlying4 (by kernel_rfl) hW' rfl rfl rfl hc

theorem hubNew_holds : Rows.HubNewSaid :=
  OpenClaim.holds_of_wide 3 Try.f3 rfl rfl rfl rfl rfl rfl rfl ⟨rfl, rfl, rfl, rfl, rfl⟩ rfl rfl rfl rfl rfl (by kernel_rfl) Try.func3 (by kernel_rfl)
    (of_decide_eq_true (by kernel_rfl)) (by unfold Func.isWrapper; first | (rw [if_pos (by decide +kernel)]; kernel_rfl) | (rw [if_neg (by decide +kernel)]; exact ⟨rfl, rfl⟩))
    (fun os started H enc _ => hubNew_lifted os started H enc)
end Go.Proofs.Ytbcpabfemejlgaa
