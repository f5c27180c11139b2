/- Frames made that may be: plain. -/
import Derived.Test.YtgdbbaggkoillaaFv
namespace Go.Proofs.Ytgdbbaggkoillaa
open K
def fitFE (k r : Int) (y : Ev) : Ev := if k = 1 then { fitEv y with c := (((fitEv y).c.set (fitEv y).r.toNat 0).set r.toNat ((fitEv y).n - 1)), r := r } else fitEv y
def fitFs (k r : Int) (l : List Ev) : List Ev := (l.take 20).map (fitFE k r)
def frFit (x : Rec) : Rec :=
  let k := fitK x.kind
  if k = 2 then ⟨2, fitR x.r, m20 x.upto, clk0, []⟩
  else if k = 3 ∨ k = 5 then ⟨k, fitR x.r, 0, fitC x.c, []⟩
  else ⟨if (fitFs k (fitR x.r) x.es).length = 0 then 4 else k, fitR x.r, 0, clk0, fitFs k (fitR x.r) x.es⟩
theorem fitK_in (n : Int) : 1 ≤ fitK n ∧ fitK n ≤ 5 := by have := fitR_in n; unfold fitR at this; unfold fitK; omega
theorem evMay_evOk {x : Ev} (h : evMay x = 0) : EvOk x := evMay_ok h
theorem evOk_may {x : Ev} (hk : EvOk x) : evMay x = 0 := by
  have hh : evHead x = true := by
    simp only [evHead, Bool.and_eq_true, decide_eq_true_eq]
    exact ⟨⟨⟨⟨⟨⟨⟨hk.r0, hk.r5⟩, hk.n1⟩, hk.n2⟩, hk.own⟩, hk.h1⟩, hk.h2⟩, (Clk.all_iff _ _).2 fun i hi => by have := hk.c i hi; simp [inEv]; omega⟩
  refine (if_pos hh).trans ?_
  have hk1 := hk.k1
  have hk5 := hk.k5
  have h1 : tKey x.key = 0 := if_pos (by simp only [keyOk, Bool.and_eq_true, decide_eq_true_eq]; exact ⟨⟨hk.key1, hk.key8⟩, hk.keya⟩)
  refine (if_neg (show ¬ (x.kind < 1 ∨ 5 < x.kind) by omega)).trans ?_
  refine (if_neg (show ¬ tKey x.key ≠ 0 by rw [h1]; decide)).trans ?_
  by_cases hb : x.kind ≤ 2
  · refine (if_pos (show x.kind ≤ 2 from hb)).trans ?_
    refine (if_neg (show ¬ x.label ≠ 0 by rw [(hk.bare hb).1]; decide)).trans ?_
    exact if_neg (show ¬ x.val ≠ [] by rw [(hk.bare hb).2]; decide)
  · refine (if_neg (show ¬ x.kind ≤ 2 from hb)).trans ?_
    have h2 : tLabel x.label = 0 := if_pos ⟨hk.l0, hk.l2⟩
    exact (if_neg (show ¬ tLabel x.label ≠ 0 by rw [h2]; decide)).trans (if_pos ⟨hk.v1 (by omega), hk.v12⟩)
theorem fitFE_ok (k r : Int) (hr : 0 ≤ r ∧ r < 5) (y : Ev) : evMay (fitFE k r y) = 0 := by
  unfold fitFE
  split
  · have ok := evMay_ok (fitEv_ok y)
    have h0 := ok.r0; have h5 := ok.r5; have n1 := ok.n1; have n2 := ok.n2
    refine evOk_may ⟨hr.1, hr.2, ok.n1, ok.n2, ?_, ok.h1, ok.h2, fun i hi => ?_, ok.k1, ok.k5, ok.key1, ok.key8, ok.keya, ok.l0, ok.l2, ok.v12, ok.v1, ok.bare⟩
    · show (((fitEv y).c.set (fitEv y).r.toNat 0).set r.toNat ((fitEv y).n - 1)).get r.toNat = _
      rw [Clk.get_set _ _ _ (by omega) (by omega), if_pos rfl]
    · show 0 ≤ (((fitEv y).c.set (fitEv y).r.toNat 0).set r.toNat ((fitEv y).n - 1)).get i ∧ (((fitEv y).c.set (fitEv y).r.toNat 0).set r.toNat ((fitEv y).n - 1)).get i ≤ 1048576
      rw [Clk.get_set _ _ _ (by omega) hi]
      split
      · omega
      · rw [Clk.get_set _ _ _ (by omega) hi]
        split
        · omega
        · exact ok.c i hi
  · exact fitEv_ok y
theorem fitFs_ok (k r : Int) (hr : 0 ≤ r ∧ r < 5) (l : List Ev) : ∀ y ∈ fitFs k r l, evMay y = 0 := by
  intro y hy
  obtain ⟨z, _, rfl⟩ := List.mem_map.1 hy
  exact fitFE_ok k r hr z
theorem fitFs_len (k r : Int) (l : List Ev) : (fitFs k r l).length ≤ 20 := by unfold fitFs; rw [List.length_map, List.length_take]; omega
theorem fitFs_own (r : Int) (l : List Ev) : ∀ y ∈ fitFs 1 r l, y.r = r := by
  intro y hy
  obtain ⟨z, _, rfl⟩ := List.mem_map.1 hy
  unfold fitFE
  rw [if_pos rfl]
theorem frFit_ok (x : Rec) : FrOk (frFit x) := by
  have hr := fitR_in x.r
  have hu := m20_in x.upto
  have hk := fitK_in x.kind
  unfold frFit
  generalize fitK x.kind = k at *
  generalize fitR x.r = r at *
  simp only
  split
  · refine ⟨(by decide : fHas 2 ≠ 0), hr.1, hr.2, .inr rfl, .inl rfl, .inr rfl, .inl (by show (2 : Int) ≠ 1; decide), by show 0 ≤ 20; decide, hu.1, by show m20 x.upto ≤ 1048576; omega, fun i hi => ?_, fun y hy => (nomatch hy), fun h => absurd (show (2 : Int) = 1 from h) (by decide)⟩
    show 0 ≤ clk0.get i ∧ clk0.get i ≤ 1048576
    rw [clk0_in]; omega
  · split
    · rename_i h35
      have hf : fHas k = 3 := by rcases h35 with rfl | rfl <;> rfl
      refine ⟨by show fHas k ≠ 0; rw [hf]; decide, hr.1, hr.2, .inr rfl, .inr rfl, .inl hf, .inl (by show k ≠ 1; omega), by show 0 ≤ 20; decide, Int.le_refl 0, (by decide : (0 : Int) ≤ 1048576), fun i hi => ?_, fun y hy => (nomatch hy), fun _ y hy => (nomatch hy)⟩
      show 0 ≤ (fitC x.c).get i ∧ (fitC x.c).get i ≤ 1048576
      rw [fitC_get]
      have := m20_in (x.c.get i)
      omega
    · rename_i h2 h35
      have hl := fitFs_len k r x.es
      have hes := fitFs_ok k r hr x.es
      have hkk : k = 1 ∨ k = 4 := by omega
      have hclk : ∀ i, i < 5 → 0 ≤ clk0.get i ∧ clk0.get i ≤ 1048576 := fun i _ => by rw [clk0_in]; omega
      by_cases h0 : (fitFs k r x.es).length = 0
      · rw [if_pos h0]
        exact ⟨(by decide : fHas 4 ≠ 0), hr.1, hr.2, .inl rfl, .inr rfl, .inr rfl, .inl (by show (4 : Int) ≠ 1; decide), hl, Int.le_refl 0, (by decide : (0 : Int) ≤ 1048576), hclk, hes, fun h => absurd (show (4 : Int) = 1 from h) (by decide)⟩
      · rw [if_neg h0]
        have hf : fHas k = 1 := by rcases hkk with rfl | rfl <;> rfl
        refine ⟨by show fHas k ≠ 0; rw [hf]; decide, hr.1, hr.2, .inl hf, .inr rfl, .inr rfl, .inr (fun he => h0 (by have he : fitFs k r x.es = [] := he; rw [he]; rfl)), hl, Int.le_refl 0, (by decide : (0 : Int) ≤ 1048576), hclk, hes, fun h => ?_⟩
        have h : k = 1 := h
        subst h
        exact fitFs_own r x.es
end Go.Proofs.Ytgdbbaggkoillaa
