/- kithlaw20.HubReplies holds of all that is handed in: no condition. -/
import Derived.Test.YtbcpabfemejlgaaM19
import Derived.Test.YtbcpabfemejlgaaM8
namespace Go.Proofs.Ytbcpabfemejlgaa
open Go.ChangeShapes Go.WideShapes Go.ChangeAt Go.RowKit
open K

set_option maxRecDepth 100000 in
theorem hubReplies_lifted (os : Os) (started : os.Started) (H : Type) (enc : TypeId × Value → H) :
    ReturnsInHanded {} Try.checked os 4 .any (Rows.hubRepliesSpec.pre6 enc Try.prog Try.f4 Rows.hubRepliesRow.domain false) (Rows.hubRepliesSpec.post enc Try.prog Try.f4 false true false false) := by
  refine returnsInHanded_of_change_sized (C := Try.checked) Try.own started (by kernel_rfl) Try.func4
    (ChangeSpec.witness6 (enc := enc) (C := Try.checked) false ⟨#[], #[.agg (cfC ⟨0, 0, 0, 0, 0, 0⟩).toArray, .agg (arrb 0 0).toArray], []⟩ 8 (by kernel_rfl) (by kernel_rfl) (by kernel_rfl) (by kernel_rfl)) ?_
  intro W base args ds gs before hval0 hW _ hsz _
  have hval : ∀ (j : Nat) t v, Try.f4.params[j]? = some t → args[j]? = some v → Value.okWide Try.prog W .any base t v := hval0
  have hW' := hW
  obtain ⟨p, q, hA0, hV, rfl, hfz, hnd⟩ := hW
  have hA : DataW.TrodAll enc Try.prog W 0 (fun _ => true) true Try.f4.params.toList args.toList ds p := hA0
  rw [Try.params4] at hA hval
  obtain ⟨v0, v1, d0, d1, p0, p1, rfl, rfl, rfl, h0, h1⟩ := trodAll_two hA
  obtain ⟨rfl, rfl⟩ := trodVars_none hV
  obtain ⟨x0, rfl⟩ := open_cfg (hval 0 _ v0 rfl rfl) h0
  obtain ⟨x1, y1, rfl, hx1, hy1⟩ := open_arrb (hval 1 _ v1 rfl rfl) h1
  refine (c_HubReplies x0 x1 y1 hx1 hy1 W).mono fun v W' ⟨hv, hc⟩ => ?_
  subst hv
  exact law_post Try.laidOut rfl rfl Try.underlying4 (by kernel_rfl) hW' rfl rfl rfl hc

theorem hubReplies_holds : Rows.HubRepliesSaid :=
  OpenClaim.holds_of_wide 4 Try.f4 rfl rfl rfl rfl rfl rfl rfl ⟨rfl, rfl, rfl, rfl, rfl⟩ rfl rfl rfl rfl rfl (by kernel_rfl) Try.func4 (by kernel_rfl)
    (of_decide_eq_true (by kernel_rfl)) (by unfold Func.isWrapper; first | (rw [if_pos (by decide +kernel)]; kernel_rfl) | (rw [if_neg (by decide +kernel)]; exact ⟨rfl, rfl⟩))
    (fun os started H enc _ => hubReplies_lifted os started H enc)
end Go.Proofs.Ytbcpabfemejlgaa
