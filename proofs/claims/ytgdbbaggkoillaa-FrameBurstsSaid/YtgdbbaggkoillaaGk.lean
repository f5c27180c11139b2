/- kithlaw07.FrameBursts holds of all that is handed in: no condition. -/
import Derived.Test.YtgdbbaggkoillaaHc
import Derived.Test.YtgdbbaggkoillaaLf
import Derived.Test.YtgdbbaggkoillaaKl
namespace Go.Proofs.Ytgdbbaggkoillaa
open Go.ChangeShapes Go.WideShapes Go.ChangeAt Go.RowKit
open K

set_option maxRecDepth 100000 in
theorem frameBursts_lifted (os : Os) (started : os.Started) (H : Type) (enc : TypeId × Value → H) :
    ReturnsInHanded {} Try.checked os 11 .any (Rows.frameBurstsSpec.pre6 enc Try.prog Try.f11 Rows.frameBurstsRow.domain false) (Rows.frameBurstsSpec.post enc Try.prog Try.f11 false true false false) := by
  refine returnsInHanded_of_change_sized (C := Try.checked) Try.own started (by kernel_rfl) Try.func11
    (ChangeSpec.witness6 (enc := enc) (C := Try.checked) false ⟨#[], #[.agg (recV rec0 none 0).toArray, .int .i64 0, .int .u32 0], []⟩ 8 (by kernel_rfl) (by kernel_rfl) (by kernel_rfl) (by kernel_rfl)) ?_
  intro W base args ds gs before hval0 hW _ hsz _
  have hval : ∀ (j : Nat) t v, Try.f11.params[j]? = some t → args[j]? = some v → Value.okWide Try.prog W .any base t v := hval0
  have hW' := hW
  obtain ⟨p, q, hA0, hV, rfl, hfz, hnd⟩ := hW
  have hA : DataW.TrodAll enc Try.prog W 0 (fun _ => true) true Try.f11.params.toList args.toList ds p := hA0
  rw [Try.params11] at hA hval
  obtain ⟨v0, v1, v2, d0, d1, d2, p0, p1, p2, rfl, rfl, rfl, h0, h1, h2⟩ := trodAll_three hA
  obtain ⟨rfl, rfl⟩ := trodVars_none hV
  have hs0 := fun n hn => List.all_eq_true.1 hsz n (DataW.weights_mem_each (j := 0) rfl rfl n hn)
  obtain ⟨x0, ra0, rc0, rfl, _, hc0, hin0⟩ := open_frame (hval 0 _ v0 rfl rfl) h0 (List.all_eq_true.2 hs0)
  obtain ⟨n1, rfl, rfl, rfl, wf1⟩ := open_int Try.underlying3 (hval 1 _ v1 rfl rfl) h1
  have hi1 : i64 n1 := i64_wf wf1
  obtain ⟨n2, rfl, rfl, rfl, wf2⟩ := open_int Try.underlying54 (hval 2 _ v2 rfl rfl) h2
  have hu2 : 0 ≤ n2 ∧ n2 ≤ 4294967295 := by simpa [Lit.wf, IntKind.min, IntKind.max, IntKind.signed, IntKind.bits] using wf2
  obtain ⟨m2, rfl⟩ := Int.eq_ofNat_of_zero_le hu2.1
  refine (c_FrameBursts x0 ra0 rc0 hin0 n1 hi1 m2 (by omega) W hc0).mono fun v W' ⟨hv, hc⟩ => ?_
  subst hv
  exact law_post Try.laidOut rfl rfl Try.underlying4 (by kernel_rfl) hW' rfl rfl rfl hc

theorem frameBursts_holds : Rows.FrameBurstsSaid :=
  OpenClaim.holds_of_wide 11 Try.f11 rfl rfl rfl rfl rfl rfl rfl ⟨rfl, rfl, rfl, rfl, rfl⟩ rfl rfl rfl rfl rfl (by kernel_rfl) Try.func11 (by kernel_rfl)
    (of_decide_eq_true (by kernel_rfl)) (by unfold Func.isWrapper; first | (rw [if_pos (by decide +kernel)]; kernel_rfl) | (rw [if_neg (by decide +kernel)]; exact ⟨rfl, rfl⟩))
    (fun os started H enc _ => frameBursts_lifted os started H enc)
end Go.Proofs.Ytgdbbaggkoillaa

