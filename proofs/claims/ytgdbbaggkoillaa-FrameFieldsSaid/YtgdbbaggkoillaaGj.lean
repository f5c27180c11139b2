/- kithlaw07.FrameFields holds of all that is handed in: no condition. -/
import Derived.Test.YtgdbbaggkoillaaHb
import Derived.Test.YtgdbbaggkoillaaLf
import Derived.Test.YtgdbbaggkoillaaKl
namespace Go.Proofs.Ytgdbbaggkoillaa
open Go.ChangeShapes Go.WideShapes Go.ChangeAt Go.RowKit
open K

set_option maxRecDepth 100000 in
theorem frameFields_lifted (os : Os) (started : os.Started) (H : Type) (enc : TypeId × Value → H) :
    ReturnsInHanded {} Try.checked os 12 .any (Rows.frameFieldsSpec.pre6 enc Try.prog Try.f12 Rows.frameFieldsRow.domain false) (Rows.frameFieldsSpec.post enc Try.prog Try.f12 false true false false) := by
  refine returnsInHanded_of_change_sized (C := Try.checked) Try.own started (by kernel_rfl) Try.func12
    (ChangeSpec.witness6 (enc := enc) (C := Try.checked) false ⟨#[], #[.agg (recV rec0 none 0).toArray, .int .u8 0], []⟩ 8 (by kernel_rfl) (by kernel_rfl) (by kernel_rfl) (by kernel_rfl)) ?_
  intro W base args ds gs before hval0 hW _ hsz _
  have hval : ∀ (j : Nat) t v, Try.f12.params[j]? = some t → args[j]? = some v → Value.okWide Try.prog W .any base t v := hval0
  have hW' := hW
  obtain ⟨p, q, hA0, hV, rfl, hfz, hnd⟩ := hW
  have hA : DataW.TrodAll enc Try.prog W 0 (fun _ => true) true Try.f12.params.toList args.toList ds p := hA0
  rw [Try.params12] at hA hval
  obtain ⟨v0, v1, d0, d1, p0, p1, rfl, rfl, rfl, h0, h1⟩ := trodAll_two hA
  obtain ⟨rfl, rfl⟩ := trodVars_none hV
  have hs0 := fun n hn => List.all_eq_true.1 hsz n (DataW.weights_mem_each (j := 0) rfl rfl n hn)
  obtain ⟨x0, ra0, rc0, rfl, _, hc0, hin0⟩ := open_frame (hval 0 _ v0 rfl rfl) h0 (List.all_eq_true.2 hs0)
  obtain ⟨n1, rfl, rfl, rfl, wf1⟩ := open_int Try.underlying5 (hval 1 _ v1 rfl rfl) h1
  have hu1 : 0 ≤ n1 ∧ n1 ≤ 255 := by simpa [Lit.wf, IntKind.min, IntKind.max, IntKind.signed, IntKind.bits] using wf1
  obtain ⟨m1, rfl⟩ := Int.eq_ofNat_of_zero_le hu1.1
  refine (c_FrameFields x0 ra0 rc0 hin0 m1 W hc0).mono fun v W' ⟨hv, hc⟩ => ?_
  subst hv
  exact law_post Try.laidOut rfl rfl Try.underlying4 (by kernel_rfl) hW' rfl rfl rfl hc

theorem frameFields_holds : Rows.FrameFieldsSaid :=
  OpenClaim.holds_of_wide 12 Try.f12 rfl rfl rfl rfl rfl rfl rfl ⟨rfl, rfl, rfl, rfl, rfl⟩ rfl rfl rfl rfl rfl (by kernel_rfl) Try.func12 (by kernel_rfl)
    (of_decide_eq_true (by kernel_rfl)) (by unfold Func.isWrapper; first | (rw [if_pos (by decide +kernel)]; kernel_rfl) | (rw [if_neg (by decide +kernel)]; exact ⟨rfl, rfl⟩))
    (fun os started H enc _ => frameFields_lifted os started H enc)
end Go.Proofs.Ytgdbbaggkoillaa

