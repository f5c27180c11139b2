/- kithlaw06.EventBelow: the walk. -/
import Derived.Test.YtgdbbaggkoillaaEz
namespace Go.Proofs.Ytgdbbaggkoillaa
open K
set_option maxRecDepth 100000
set_option maxHeartbeats 4000000

theorem below_self {x : Ev} (hk : EvOk x) : cHas x.c x.r x.n = false := by
  have h1 := hk.own
  simp only [cHas]
  rw [Bool.and_eq_false_iff]
  right
  rw [h1]
  simp; omega
theorem below_same {x y : Ev} (hx : EvOk x) (hy : EvOk y) (h : x.r = y.r) : cHas y.c x.r x.n = decide (x.n < y.n) := by
  have h1 := hy.own
  have h2 := hx.r0
  have h3 := hx.r5
  have h4 := hx.n1
  simp only [cHas]
  rw [h, h1, decide_eq_true (show 0 ≤ y.r by omega), decide_eq_true (show y.r < 5 by omega), decide_eq_true (show 0 < x.n by omega)]
  simp only [Bool.true_and]
  exact decide_eq_decide.2 (by omega)
theorem below_not {x y : Ev} (hx : EvOk x) (h1 : cHas y.c x.r x.n = true) (hc : ∀ j, j < 5 → y.c.get j ≤ x.c.get j) : False := by
  have h := hx.own
  have h2 := hx.r0
  have h3 := hx.r5
  simp only [cHas, Bool.and_eq_true, decide_eq_true_eq] at h1
  have := hc x.r.toNat (by omega)
  omega

theorem c_EventBelow (a : Ev) (ha : EvIn a) (b : Ev) (hb : EvIn b) (w : World) : Cl Try.prog 5 #[.agg (evC a).toArray, .agg (evC b).toArray] w (fun v w' => v = .bool true ∧ Chg No w w') := by
  refine f_enter (args := [_, _]) Try.func5 rfl rfl ?_
  have mm := Mem.nil No w
  have hx := evMay_ok (fitEv_ok a)
  have hy := evMay_ok (fitEv_ok b)
  refine c_sreg rfl ?_
  refine so (o_bxa mm rfl fun b2 w2 mm => ?_)
  refine so (o_bxa mm rfl fun b3 w3 mm => ?_)
  refine s1 (r_asb rfl) ?_
  refine wn ?_
  refine c_sreg rfl ?_
  refine so (o_c0 (c_shown6 _) ?_)
  rintro _ w4 ⟨rfl, hc⟩
  have mm := mm.frame hc
  refine s1 (r_asb rfl) ?_
  refine wn ?_
  refine c_sreg rfl ?_
  refine s1 (r_lda rfl (mm.b 0 rfl) rfl) ?_
  refine so (o_c1 rfl (c_fit6 a ha _) ?_)
  rintro _ w5 ⟨rfl, hc⟩
  have mm := mm.frame hc
  refine so (o_al mm fun b6 w6 mm => ?_)
  refine ss (o_sta mm 2 rfl rfl rfl rfl rfl (Nat.le_of_ble_eq_true rfl) fun w7 mm => ?_)
  refine wn ?_
  refine c_sreg rfl ?_
  refine s1 (r_lda rfl (mm.b 1 rfl) rfl) ?_
  refine so (o_c1 rfl (c_fit6 b hb _) ?_)
  rintro _ w8 ⟨rfl, hc⟩
  have mm := mm.frame hc
  refine so (o_al mm fun b9 w9 mm => ?_)
  refine ss (o_sta mm 3 rfl rfl rfl rfl rfl (Nat.le_of_ble_eq_true rfl) fun w10 mm => ?_)
  refine wn ?_
  generalize hxe : fitEv a = x at *
  generalize hye : fitEv b = y at *
  have mm := mm.pk [2, 3] (by decide)
  have mm : Mem w No w10 [bk b6 (evC x) 25, bk b9 (evC y) 25] := mm
  have sx := below_self hx
  have sy := below_self hy
  refine c_seq ?_
  refine c_sreg rfl ?_
  refine s1 (r_lda rfl (mm.b 0 rfl) rfl) ?_
  refine s1 (r_lda rfl (mm.b 0 rfl) rfl) ?_
  refine so (o_c2 rfl rfl (sx ▸ c_below x x _) ?_)
  rintro _ w11 ⟨rfl, hc⟩
  have mm := mm.frame hc
  refine s1 (r_mvb rfl) ?_
  refine sF rfl rfl (fun h => r_lda rfl (mm.b 1 rfl) rfl) ?_
  refine sF rfl rfl (fun h => r_lda rfl (mm.b 1 rfl) rfl) ?_
  refine sFw (I := Sof mm) rfl rfl mm (fun h => o_c2 (sel_t h) (sel_t h) (sy ▸ c_below y y _) (fun _ _ hh => ⟨hh.1, mm.frame hh.2⟩)) (fun w12 mm => ?_)
  refine s1 (r_or rfl rfl) ?_
  refine wn ?_
  refine c_cond rfl (fun h => ?_) (fun h => (c_skip (t_n ?_)))
  · cases h
  clear h
  refine c_seq ?_
  refine c_sreg rfl ?_
  refine s1 (r_fa rfl) ?_
  refine s1 (r_ld rfl (mm.b 0 rfl) rfl) ?_
  refine s1 (r_fa rfl) ?_
  refine s1 (r_ld rfl (mm.b 1 rfl) rfl) ?_
  refine s1 (r_eq rfl rfl) ?_
  refine wn ?_
  refine c_cond rfl (fun h => ?_) (fun h => (c_skip (t_n ?_)))
  · have hr : x.r = y.r := by simpa using h
    have hs := below_same hx hy hr
    refine c_sdraw mixed [(0, true), (1, true), (2, true), (3, true), (5, true), (6, true), (7, true), (8, true), (9, true), (4, false), (10, true), (11, true), (12, true)] [true, true, true, true, true, true, true, true, true, true, true, true, true] (Sof mm) (by kernel_rfl) rfl rfl (by kernel_rfl) (fun w13 hc => ?_)
    have mm := mm.frame hc
    refine p1 rfl (fun w m => r_mvb rfl) mm ?_
    refine p1 rfl (fun w m => r_mvb rfl) mm ?_
    refine pT rfl rfl rfl (fun h w m => r_lda rfl (m.b 0 rfl) rfl) mm ?_
    refine pT rfl rfl rfl (fun h w m => r_lda rfl (m.b 1 rfl) rfl) mm ?_
    refine pT rfl rfl rfl (fun h w m => r_fa rfl) mm ?_
    refine pT rfl rfl rfl (fun h w m => r_ld (sel_t h) (m.b 0 rfl) rfl) mm ?_
    refine pT rfl rfl rfl (fun h w m => r_fa rfl) mm ?_
    refine pT rfl rfl rfl (fun h w m => r_ld (sel_t h) (m.b 1 rfl) rfl) mm ?_
    refine pT rfl rfl rfl (fun h w m => r_lt (sel_t h) (sel_t h)) mm ?_
    refine pTw (I := Sof mm) rfl rfl rfl mm (fun h => o_c2 (sel_t h) (sel_t h) (c_below x y _) (fun _ _ hh => ⟨hh.1, mm.frame hh.2⟩)) (fun w14 mm => ⟨fun _ => mm, ?_⟩)
    refine pT rfl rfl rfl (fun h w m => r_beq Try.underlying4 (sel_t h) (sel_t h)) mm ?_
    refine p1 rfl (fun w m => r_and rfl rfl) mm ?_
    refine p1 rfl (fun w m => r_asb rfl) mm ?_
    refine pn ?_
    refine c_ret (ret1 rfl rfl ⟨congrArg Value.bool (?_ : _ = true), mm.chg⟩)
    rw [hs]
    simp
  clear h
  refine c_sreg rfl ?_
  refine s1 (r_lda rfl (mm.b 0 rfl) rfl) ?_
  refine s1 (r_lda rfl (mm.b 1 rfl) rfl) ?_
  refine so (o_c2 rfl rfl (c_below x y _) ?_)
  rintro _ w15 ⟨rfl, hc⟩
  have mm := mm.frame hc
  refine s1 (r_asb rfl) ?_
  refine wn ?_
  refine c_sreg rfl ?_
  refine s1 (r_lda rfl (mm.b 1 rfl) rfl) ?_
  refine s1 (r_lda rfl (mm.b 0 rfl) rfl) ?_
  refine so (o_c2 rfl rfl (c_below y x _) ?_)
  rintro _ w16 ⟨rfl, hc⟩
  have mm := mm.frame hc
  refine s1 (r_asb rfl) ?_
  refine wn ?_
  refine c_sreg rfl ?_
  refine s1 (r_asb rfl) ?_
  refine wn ?_
  refine c_seq ?_
  refine c_sreg rfl ?_
  refine s1 (r_asi rfl) ?_
  refine wn ?_
  refine c_block ?_
  refine c_loop (fun k e w' => ∃ (i : Nat) (cl : Bool), k + i = 5 ∧ e 5 = .bool true ∧ e 6 = .pointer (some ⟨b6, 0, none⟩) ∧ e 7 = .pointer (some ⟨b9, 0, none⟩) ∧ e 8 = .bool (cHas y.c x.r x.n) ∧ e 9 = .bool (cHas x.c y.r y.n) ∧ e 10 = .bool cl ∧ e 11 = .int .i64 i ∧ Mem w No w' [bk b6 (evC x) 25, bk b9 (evC y) 25] ∧ (cl = true → ∀ j, j < i → (cHas y.c x.r x.n = true → x.c.get j ≤ y.c.get j) ∧ (cHas x.c y.r y.n = true → y.c.get j ≤ x.c.get j))) 5 ?_ ?_
  · exact ⟨0, true, rfl, rfl, rfl, rfl, rfl, rfl, rfl, rfl, mm, fun _ j hj => absurd hj (by omega)⟩
  rintro k e w' ⟨i, cl, hki, h5, h6, h7, h8, h9, h10, h11, mm, hcl⟩
  have hno : cHas y.c x.r x.n = true → (∀ j, j < 5 → y.c.get j ≤ x.c.get j) → False := fun h => below_not hx h
  generalize cHas y.c x.r x.n = one at *
  generalize cHas x.c y.r y.n = two at *
  refine c_seq ?_
  refine c_sreg rfl ?_
  refine s1 (r_mvi h11) ?_
  refine s1 (r_lt rfl rfl) ?_
  refine wn ?_
  refine c_cond rfl (fun h => (c_skip (t_n ?_))) (fun h => (c_exit (t_x (t_x (b_x (t_n ?_))))))
  · have hi : i < 5 := by simp at h; omega
    clear h
    refine c_seq ?_
    refine c_block ?_
    refine c_draw mixed [(0, true), (1, true), (2, true), (3, true), (4, true), (5, true), (6, true), (7, true), (8, true), (9, true), (10, true), (11, true), (12, true), (13, true), (14, true), (15, true), (16, true), (17, true), (18, true), (19, true), (20, true), (21, true), (22, true), (23, true), (24, true), (25, true), (26, true), (27, true), (28, true), (29, true), (30, true), (31, true)] [true, true, true, true, true, true, true, true, true, true, true, true, true, true, true, true, true, true, true, true, true, true, true, true, true, true, true, true, true, true, true, true] (Sof mm) (by kernel_rfl) rfl rfl (by kernel_rfl) (fun w17 hc => ?_)
    have mm := mm.frame hc
    refine p1 rfl (fun w m => r_mvb h10) mm ?_
    refine p1 rfl (fun w m => r_mvb rfl) mm ?_
    refine pT rfl rfl rfl (fun h w m => r_mvb h8) mm ?_
    refine pT rfl rfl rfl (fun h w m => r_not (sel_t h)) mm ?_
    refine pT rfl rfl rfl (fun h w m => r_mvb (sel_t h)) mm ?_
    refine pFs rfl rfl rfl (fun h w m => r_mvi h11) mm ?_
    refine pFs rfl rfl rfl (fun h w m => r_fa h6) mm ?_
    refine pFs rfl rfl rfl (fun h w m => r_ixa (sel_t h) (sel_t h) (by omega) (by omega)) mm ?_
    refine pFs rfl rfl rfl (fun h w m => r_ld (sel_t h) (m.b 0 rfl) (nth_evi x i hi)) mm ?_
    refine pFs rfl rfl rfl (fun h w m => r_mvi h11) mm ?_
    refine pFs rfl rfl rfl (fun h w m => r_fa h7) mm ?_
    refine pFs rfl rfl rfl (fun h w m => r_ixa (sel_t h) (sel_t h) (by omega) (by omega)) mm ?_
    refine pFs rfl rfl rfl (fun h w m => r_ld (sel_t h) (m.b 1 rfl) (nth_evi y i hi)) mm ?_
    refine pFs rfl rfl rfl (fun h w m => r_le (sel_t h) (sel_t h)) mm ?_
    refine pT rfl rfl rfl (fun h w m => r_or (sel_t h) (sel_and h)) mm ?_
    refine p1 rfl (fun w m => r_and rfl rfl) mm ?_
    refine p1 rfl (fun w m => r_mvb rfl) mm ?_
    refine pT rfl rfl rfl (fun h w m => r_mvb h9) mm ?_
    refine pT rfl rfl rfl (fun h w m => r_not (sel_t h)) mm ?_
    refine pT rfl rfl rfl (fun h w m => r_mvb (sel_t h)) mm ?_
    refine pFs rfl rfl rfl (fun h w m => r_mvi h11) mm ?_
    refine pFs rfl rfl rfl (fun h w m => r_fa h7) mm ?_
    refine pFs rfl rfl rfl (fun h w m => r_ixa (sel_t h) (sel_t h) (by omega) (by omega)) mm ?_
    refine pFs rfl rfl rfl (fun h w m => r_ld (sel_t h) (m.b 1 rfl) (nth_evi y i hi)) mm ?_
    refine pFs rfl rfl rfl (fun h w m => r_mvi h11) mm ?_
    refine pFs rfl rfl rfl (fun h w m => r_fa h6) mm ?_
    refine pFs rfl rfl rfl (fun h w m => r_ixa (sel_t h) (sel_t h) (by omega) (by omega)) mm ?_
    refine pFs rfl rfl rfl (fun h w m => r_ld (sel_t h) (m.b 0 rfl) (nth_evi x i hi)) mm ?_
    refine pFs rfl rfl rfl (fun h w m => r_le (sel_t h) (sel_t h)) mm ?_
    refine pT rfl rfl rfl (fun h w m => r_or (sel_t h) (sel_and h)) mm ?_
    refine p1 rfl (fun w m => r_and rfl rfl) mm ?_
    refine p1 rfl (fun w m => r_asb rfl) mm ?_
    refine pn (b_n (t_n ?_))
    refine c_region rfl ?_
    refine s1 (r_mvi h11) ?_
    refine s1 (r_add rfl rfl (wi (by omega) (by omega))) ?_
    refine s1 (r_asi rfl) ?_
    refine wn (t_n ?_)
    refine ⟨k - 1, by omega, i + 1, _, by omega, h5, h6, h7, h8, h9, rfl, rfl, mm, ?_⟩
    intro hc j hj
    simp only [Bool.and_eq_true, Bool.or_eq_true, Bool.not_eq_true', decide_eq_true_eq] at hc
    rcases Nat.lt_or_ge j i with hlt | hge
    · exact hcl hc.1.1 j hlt
    · obtain rfl : j = i := by omega
      refine ⟨fun h => ?_, fun h => ?_⟩
      · exact hc.1.2.resolve_left (by rw [h]; decide)
      · exact hc.2.resolve_left (by rw [h]; decide)
  have hi : i = 5 := by simp at h; omega
  subst hi
  clear h
  obtain ⟨s5, hs5, h5⟩ : ∃ s, s = true ∧ e 5 = .bool s := ⟨true, rfl, h5⟩
  refine c_sreg rfl ?_
  refine s1 (r_mvb h5) ?_
  refine s1 (r_mvb rfl) ?_
  refine sT rfl rfl (fun h => r_mvb h8) ?_
  refine sT rfl rfl (fun h => r_not (sel_t h)) ?_
  refine sT rfl rfl (fun h => r_mvb (sel_t h)) ?_
  refine sFs rfl rfl (fun h => r_mvb h9) ?_
  refine sFs rfl rfl (fun h => r_not (sel_t h)) ?_
  refine sT rfl rfl (fun h => r_or (sel_t h) (sel_and h)) ?_
  refine sT rfl rfl (fun h => r_mvb (sel_t h)) ?_
  refine sFs rfl rfl (fun h => r_mvb h10) ?_
  refine sFs rfl rfl (fun h => r_not (sel_t h)) ?_
  refine sT rfl rfl (fun h => r_or (sel_t h) (sel_and h)) ?_
  refine s1 (r_and rfl rfl) ?_
  refine s1 (r_asb rfl) ?_
  refine wn ?_
  refine c_ret (ret1 rfl rfl ⟨congrArg Value.bool (?_ : _ = true), mm.chg⟩)
  rw [hs5]
  simp
  cases one with
  | false => exact .inl (.inl rfl)
  | true =>
    cases two with
    | false => exact .inl (.inr rfl)
    | true =>
      cases cl with
      | false => exact .inr rfl
      | true => exact (hno rfl fun j hj => (hcl rfl j hj).2 rfl).elim
end Go.Proofs.Ytgdbbaggkoillaa

