/- kithlaw20.HubCuts holds of all that is handed in: no condition. -/
import Derived.Test.YtbcpabfemejlgaaM19
import Derived.Test.YtbcpabfemejlgaaM8
namespace Go.Proofs.Ytbcpabfemejlgaa
open Go.ChangeShapes Go.WideShapes Go.ChangeAt Go.RowKit
open K

set_option maxRecDepth 100000 in
theorem hubCuts_lifted (os : Os) (started : os.Started) (H : Type) (enc : TypeId × Value → H) :
    ReturnsInHanded {} Try.checked os 5 .any (Rows.hubCutsSpec.pre6 enc Try.prog Try.f5 Rows.hubCutsRow.domain false) (Rows.hubCutsSpec.post enc Try.prog Try.f5 false true false false) := by
  refine returnsInHanded_of_change_sized (C := Try.checked) Try.own started (by kernel_rfl) Try.func5
    (ChangeSpec.witness6 (enc := enc) (C := Try.checked) false ⟨#[], #[.agg (cfC ⟨0, 0, 0, 0, 0, 0⟩).toArray, .bool false, .int .u8 0], []⟩ 8 (by kernel_rfl) (by kernel_rfl) (by kernel_rfl) (by kernel_rfl)) ?_
  intro W base args ds gs before hval0 hW _ hsz _
  have hval : ∀ (j : Nat) t v, Try.f5.params[j]? = some t → args[j]? = some v → Value.okWide Try.prog W .any base t v := hval0
  have hW' := hW
  obtain ⟨p, q, hA0, hV, rfl, hfz, hnd⟩ := hW
  have hA : DataW.TrodAll enc Try.prog W 0 (fun _ => true) true Try.f5.params.toList args.toList ds p := hA0
  rw [Try.params5] at hA hval
  obtain ⟨v0, v1, v2, d0, d1, d2, p0, p1, p2, rfl, rfl, rfl, h0, h1, h2⟩ := trodAll_three hA
  obtain ⟨rfl, rfl⟩ := trodVars_none hV
  obtain ⟨x0, rfl⟩ := open_cfg (hval 0 _ v0 rfl rfl) h0
  obtain ⟨x1, rfl⟩ := open_boolv (hval 1 _ v1 rfl rfl)
  obtain ⟨n2, rfl, rfl, rfl, wf2⟩ := open_int Try.underlying5 (hval 2 _ v2 rfl rfl) h2
  have hu2 : 0 ≤ n2 ∧ n2 ≤ 255 := by simpa [Lit.wf, IntKind.min, IntKind.max, IntKind.signed, IntKind.bits] using wf2
  obtain ⟨m2, rfl⟩ := Int.eq_ofNat_of_zero_le hu2.1
  refine (c_HubCuts x0 x1 m2 (by omega) W).mono fun v W' ⟨hv, hc⟩ => ?_
  subst hv
  exact law_post Try.laidOut rfl rfl Try.underlying4 (by kernel_rfl) hW' rfl rfl rfl hc

theorem hubCuts_holds : Rows.HubCutsSaid :=
  OpenClaim.holds_of_wide 5 Try.f5 rfl rfl rfl rfl rfl rfl rfl ⟨rfl, rfl, rfl, rfl, rfl⟩ rfl rfl rfl rfl rfl (by kernel_rfl) Try.func5 (by kernel_rfl)
    (of_decide_eq_true (by kernel_rfl)) (by unfold Func.isWrapper; first | (rw [if_pos (by decide +kernel)]; kernel_rfl) | (rw [if_neg (by decide +kernel)]; exact ⟨rfl, rfl⟩))
    (fun os started H enc _ => hubCuts_lifted os started H enc)
end Go.Proofs.Ytbcpabfemejlgaa
