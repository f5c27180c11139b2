/- kithref07.May: the walk. -/
import Derived.Test.YtgdbbaggkoillaaM13
import Derived.Test.YtgdbbaggkoillaaM11
import Derived.Test.YtgdbbaggkoillaaM10
import Derived.Test.YtgdbbaggkoillaaM12
namespace Go.Proofs.Ytgdbbaggkoillaa
open K
set_option maxRecDepth 100000
set_option maxHeartbeats 4000000

theorem tf {P : Prop} (h : true = false) : P := nomatch h
theorem ft {P : Prop} (h : false = true) : P := nomatch h
theorem frMay_no {k r u : Int} {c : Clk} {es : List Ev} (h : ¬ (0 ≤ r ∧ r ≤ 4)) : frMay ⟨k, r, u, c, es⟩ = false := by
  cases hm : frMay ⟨k, r, u, c, es⟩ with
  | false => rfl
  | true => have ok := frMay_ok hm; have h0 := ok.r0; have h5 := ok.r5; exact absurd ⟨h0, by show r ≤ 4; have : r < 5 := h5; omega⟩ h
theorem es_may {es : List Ev} : es.all (fun y => decide (evMay y = 0)) = true ↔ ∀ y ∈ es, evMay y = 0 := by
  rw [List.all_eq_true]; simp
theorem frMay_b {k r u : Int} {c : Clk} {es : List Ev} (hk : k = 1 ∨ k = 4) (h0 : 0 ≤ r) (h4 : r ≤ 4) (hown : k = 1 → ∀ y ∈ es, y.r = r) (b : Bool)
    (hb : b = true ↔ (u = 0 ∧ c = clk0 ∧ (∀ y ∈ es, evMay y = 0) ∧ es.length ≤ 20 ∧ (k = 4 ∨ es ≠ []))) : b = frMay ⟨k, r, u, c, es⟩ := by
  refine Bool.eq_iff_iff.2 ⟨fun h => ?_, fun h => ?_⟩
  · obtain ⟨h1, h2, h3, h5, h6⟩ := hb.1 h
    subst h1; subst h2
    have hf : fHas k = 1 := by rcases hk with rfl | rfl <;> rfl
    refine frMay_of ⟨by show fHas k ≠ 0; rw [hf]; decide, h0, by show r < 5; omega, .inl hf, .inr rfl, .inr rfl, ?_, h5, by show (0 : Int) ≤ 0; decide, by show (0 : Int) ≤ 1048576; decide, fun i _ => ?_, h3, hown⟩
    · rcases h6 with h6 | h6
      · exact .inl (by show k ≠ 1; omega)
      · exact .inr h6
    · show 0 ≤ clk0.get i ∧ clk0.get i ≤ 1048576
      rw [clk0_in]; omega
  · have ok := frMay_ok h
    have hf : fHas k = 1 := by rcases hk with rfl | rfl <;> rfl
    refine hb.2 ⟨ok.h2.resolve_left (by show fHas k ≠ 2; rw [hf]; decide), ok.h3.resolve_left (by show fHas k ≠ 3; rw [hf]; decide), ok.es, ok.most, ?_⟩
    rcases hk with rfl | rfl
    · exact .inr (ok.push.resolve_left (fun h => h rfl))
    · exact .inl rfl
theorem frMay_u {r u : Int} {c : Clk} {es : List Ev} (h0 : 0 ≤ r) (h4 : r ≤ 4) (b : Bool) (hb : b = true ↔ (inEv u = true ∧ c = clk0 ∧ es.length = 0)) : b = frMay ⟨2, r, u, c, es⟩ := by
  refine Bool.eq_iff_iff.2 ⟨fun h => ?_, fun h => ?_⟩
  · obtain ⟨h1, h2, h3⟩ := hb.1 h
    subst h2
    have h3 := List.eq_nil_of_length_eq_zero h3
    subst h3
    simp only [inEv, Bool.and_eq_true, decide_eq_true_eq] at h1
    refine frMay_of ⟨by show fHas 2 ≠ 0; decide, h0, by show r < 5; omega, .inr rfl, .inl rfl, .inr rfl, .inl (by show (2 : Int) ≠ 1; decide), by show 0 ≤ 20; decide, h1.1, h1.2, fun i _ => ?_, fun y hy => (nomatch hy), fun hk => absurd hk (by show ¬ (2 : Int) = 1; decide)⟩
    show 0 ≤ clk0.get i ∧ clk0.get i ≤ 1048576
    rw [clk0_in]; omega
  · have ok := frMay_ok h
    refine hb.2 ⟨by simp only [inEv, Bool.and_eq_true, decide_eq_true_eq]; exact ⟨ok.u0, ok.u1⟩, ok.h3.resolve_left (by show fHas 2 ≠ 3; decide), ?_⟩
    have : es = [] := ok.h1.resolve_left (by show fHas 2 ≠ 1; decide)
    rw [this]; rfl
theorem frMay_c {k r u : Int} {c : Clk} {es : List Ev} (hk : k = 3 ∨ k = 5) (h0 : 0 ≤ r) (h4 : r ≤ 4) (b : Bool) (hb : b = true ↔ (u = 0 ∧ c.all inEv = true ∧ es.length = 0)) : b = frMay ⟨k, r, u, c, es⟩ := by
  have hf : fHas k = 3 := by rcases hk with rfl | rfl <;> rfl
  refine Bool.eq_iff_iff.2 ⟨fun h => ?_, fun h => ?_⟩
  · obtain ⟨h1, h2, h3⟩ := hb.1 h
    subst h1
    have h3 := List.eq_nil_of_length_eq_zero h3
    subst h3
    refine frMay_of ⟨by show fHas k ≠ 0; rw [hf]; decide, h0, by show r < 5; omega, .inr rfl, .inr rfl, .inl hf, .inl (by show k ≠ 1; omega), by show 0 ≤ 20; decide, by show (0 : Int) ≤ 0; decide, by show (0 : Int) ≤ 1048576; decide, fun i hi => ?_, fun y hy => (nomatch hy), fun hk1 => absurd hk1 (by show ¬ k = 1; omega)⟩
    have := (Clk.all_iff _ _).1 h2 i hi
    simpa [inEv] using this
  · have ok := frMay_ok h
    refine hb.2 ⟨ok.h2.resolve_left (by show fHas k ≠ 2; rw [hf]; decide), (Clk.all_iff _ _).2 fun i hi => ?_, ?_⟩
    · have := ok.c i hi
      simpa [inEv] using this
    · have : es = [] := ok.h1.resolve_left (by show fHas k ≠ 1; rw [hf]; decide)
      rw [this]; rfl
theorem c_may07 (x : Rec) {a : Option Addr} {cap : Nat} (w : World) (H : Cells w a (evsC x.es)) (hw : ClkW x.c) (hl : x.es.length ≤ 1000000000000000) : Cl Try.prog 60 #[.agg (recV x a cap).toArray] w (fun v w' => v = .bool (frMay x) ∧ Chg No w w') := by
  obtain ⟨k, r, u, c, es⟩ := x
  have H : Cells w a (evsC es) := H
  have hw : ClkW c := hw
  have hl : es.length ≤ 1000000000000000 := hl
  refine f_enter (args := [_]) Try.func60 rfl rfl ?_
  have mm := Mem.nil No w
  refine c_sreg rfl ?_
  refine so (o_bxa mm rfl fun b2 w2 mm => ?_)
  refine s1 (r_asb rfl) ?_
  refine wn ?_
  have mm : Mem w No _ [bk b2 (recV ⟨k, r, u, c, es⟩ a cap) 47] := mm
  refine c_seq ?_
  refine c_sreg rfl ?_
  refine s1 (r_fa rfl) ?_
  refine s1 (r_ld rfl (mm.b 0 rfl) rfl) ?_
  refine s1 (r_lt rfl rfl) ?_
  refine s1 (r_mvb rfl) ?_
  refine sF rfl rfl (fun h => r_fa rfl) ?_
  refine sF rfl rfl (fun h => r_ld (sel_t h :) (mm.b 0 rfl) rfl) ?_
  refine sF rfl rfl (fun h => r_gt (sel_t h :) rfl) ?_
  refine s1 (r_or rfl rfl) ?_
  refine wn ?_
  refine c_cond rfl (fun h => ?_) (fun h => (c_skip (t_n ?_)))
  · refine c_sreg rfl ?_
    refine s1 (r_asb rfl) ?_
    refine wn ?_
    exact c_ret (ret1 rfl rfl ⟨congrArg Value.bool (frMay_no (by simp at h; omega)).symm, mm.chg⟩)
  have hr : 0 ≤ r ∧ r ≤ 4 := by simp at h; omega
  clear h
  refine c_sreg rfl ?_
  refine s1 (r_fa rfl) ?_
  refine s1 (r_lda rfl (mm.b 0 rfl) rfl) ?_
  refine s1 (r_bd bN rfl) ?_
  refine s1 (r_eqa clk_guard (clk_eq _ _ hw clk0_w) rfl rfl) ?_
  refine s1 (r_asb rfl) ?_
  refine wn ?_
  refine c_seq ?_
  refine c_sreg rfl ?_
  refine s1 (r_fa rfl) ?_
  refine s1 (r_ld rfl (mm.b 0 rfl) rfl) ?_
  refine wn ?_
  refine c_block ?_
  by_cases k1 : k = 1
  · subst k1
    refine c_seq ?_
    refine c_sreg rfl ?_
    refine s1 (r_eq rfl rfl) ?_
    refine s1 (r_asb rfl) ?_
    refine wn ?_
    refine c_cond rfl (fun h => (c_skip (t_n ?_))) (fun h => ?_)
    rotate_left
    · exact tf h
    clear h
    refine c_cond rfl (fun h => ?_) (fun h => ?_)
    rotate_left
    · exact tf h
    clear h
    refine c_seq ?_
    refine c_sreg rfl ?_
    refine s1 (r_fa rfl) ?_
    refine s1 (r_ld rfl (mm.b 0 rfl) rfl) ?_
    refine s1 (r_eq rfl rfl) ?_
    refine wn ?_
    refine c_cond rfl (fun h => ?_) (fun h => (c_skip (t_n ?_)))
    rotate_left
    · exact tf h
    clear h
    refine c_sreg rfl ?_
    refine s1 (r_asi rfl) ?_
    refine wn ?_
    refine c_block ?_
    refine c_loop (fun kk e w' => ∃ i : Nat, kk + i = es.length ∧ e 1 = .pointer (some ⟨b2, 0, none⟩) ∧ e 3 = .bool (decide (c = clk0)) ∧ e 4 = .int .i64 (i : Nat) ∧ Mem w No w' [bk b2 (recV ⟨1, r, u, c, es⟩ a cap) 47] ∧ (es.take i).all (fun y => decide (y.r = r)) = true) es.length ?_ ?_
    · exact ⟨0, rfl, rfl, rfl, rfl, mm, rfl⟩
    clear mm
    rintro kk e w9 ⟨i, hki, h1, h3, h4, mm, hh⟩
    refine c_seq ?_
    refine c_sreg rfl ?_
    refine s1 (r_mvi h4) ?_
    refine s1 (r_fa h1) ?_
    refine s1 (r_ld rfl (mm.b 0 rfl) rfl) ?_
    refine s1 (r_len rfl) ?_
    refine s1 (r_lt rfl rfl) ?_
    refine wn ?_
    refine c_cond rfl (fun h => (c_skip (t_n ?_))) (fun h => (c_exit (t_x (t_x (b_x (t_n ?_))))))
    · have hi : i < es.length := by simp at h; omega
      clear h
      refine c_seq ?_
      refine c_block ?_
      refine c_sdraw2 mixed [(0, some 0), (2, some 0), (6, some 0), (1, some 2), (3, some 0), (4, some 0), (5, some 2), (7, some 2), (8, some 0)] [0, 0, 0, 0, 0, 0, 0, 2, 0] (Sof mm) (Sof mm) (fun _ h => h) (by kernel_rfl) rfl rfl (by kernel_rfl) (fun w3 hc => ?_)
      have mm := mm.frame hc
      refine q01 rfl (fun w => r_fa h1) ?_
      refine q01 rfl (fun w => r_mvi h4) ?_
      refine q01 rfl (fun w => r_fa h1) ?_
      refine qA1 rfl (fun w m => r_ld rfl (m.b 0 rfl) rfl) mm ?_
      refine q01 rfl (fun w => r_ix rfl rfl (by omega) (by show ((i : Nat) : Int) < ((es.length : Nat) : Int); omega) (evs_some H hi)) ?_
      refine q01 rfl (fun w => r_fac rfl (evs_some H hi)) ?_
      refine qA1 rfl (fun w m => r_ldc rfl (m.ro H) (nth_seg _ _ 12 0 _ (by rw [seg_evs es i hi]; rfl))) mm ?_
      refine qA1 rfl (fun w m => r_ld rfl (m.b 0 rfl) rfl) mm ?_
      refine q01 rfl (fun w => r_ne rfl rfl) ?_
      refine qn ?_
      refine c_cond rfl (fun h => ?_) (fun h => (c_skip (b_n (t_n ?_))))
      · refine c_sreg rfl ?_
        refine s1 (r_asb rfl) ?_
        refine wn ?_
        refine c_ret (ret1 rfl rfl ⟨congrArg Value.bool ?_, mm.chg⟩)
        refine (Bool.eq_false_iff.2 fun hm => ?_).symm
        have := (frMay_ok hm).own rfl es[i] (List.getElem_mem hi)
        simp at h
        exact h this
      have hin : decide (es[i].r = r) = true := by simpa using h
      clear h
      refine c_region rfl ?_
      refine s1 (r_mvi h4) ?_
      refine s1 (r_add rfl rfl (wi (by omega) (by omega))) ?_
      refine s1 (r_asi rfl) ?_
      refine wn (t_n ?_)
      exact ⟨kk - 1, by omega, i + 1, by omega, h1, h3, rfl, mm, all_snoc es _ i hi hh hin⟩
    have hi : i = es.length := by simp at h; omega
    subst hi
    clear h
    rw [List.take_length] at hh
    refine c_sreg rfl ?_
    refine s1 (r_fa h1) ?_
    refine s1 (r_ld rfl (mm.b 0 rfl) rfl) ?_
    refine s1 (r_eq rfl rfl) ?_
    refine s1 (r_mvb rfl) ?_
    refine sT rfl rfl (fun h => r_mvb h3) ?_
    refine s1 (r_and rfl rfl) ?_
    refine s1 (r_mvb rfl) ?_
    refine sT rfl rfl (fun h => r_fa h1) ?_
    refine sT rfl rfl (fun h => r_ld (sel_t h :) (mm.b 0 rfl) rfl) ?_
    refine sTw (I := Sof mm) rfl rfl mm (fun h => o_c1 (sel_t h :) (c_events07 es hl _ (mm.ro H)) (fun _ _ hh => ⟨hh.1, mm.frame hh.2⟩)) (fun w4 mm => ?_)
    refine s1 (r_and rfl rfl) ?_
    refine s1 (r_mvb rfl) ?_
    refine sT rfl rfl (fun h => r_fa h1) ?_
    refine sT rfl rfl (fun h => r_ld (sel_t h :) (mm.b 0 rfl) rfl) ?_
    refine sT rfl rfl (fun h => r_eq (sel_t h :) rfl) ?_
    refine sT rfl rfl (fun h => r_mvb (sel_t h :)) ?_
    refine sFs rfl rfl (fun h => r_fa h1) ?_
    refine sFs rfl rfl (fun h => r_ld (sel_t h :) (mm.b 0 rfl) rfl) ?_
    refine sFs rfl rfl (fun h => r_len (sel_t h :)) ?_
    refine sFs rfl rfl (fun h => r_gt (sel_t h :) rfl) ?_
    refine sT rfl rfl (fun h => r_or (sel_t h :) (sel_and h :)) ?_
    refine s1 (r_and rfl rfl) ?_
    refine s1 (r_asb rfl) ?_
    refine wn ?_
    refine c_ret (ret1 rfl rfl ⟨congrArg Value.bool (frMay_b (.inl rfl) hr.1 hr.2 (fun _ => by simpa using hh) _ ?_), mm.chg⟩)
    have e20 : (((es.length : Nat) : Int) ≤ 20) ↔ es.length ≤ 20 := by omega
    have epos : (0 < ((es.length : Nat) : Int)) ↔ es ≠ [] := by rw [← List.length_pos_iff]; omega
    simp only [Bool.and_eq_true, Bool.or_eq_true, decide_eq_true_eq, es_may, e20, epos]
    simp [and_assoc]
  by_cases k4 : k = 4
  · subst k4
    refine c_seq ?_
    refine c_sreg rfl ?_
    refine s1 (r_eq rfl rfl) ?_
    refine s1 (r_asb rfl) ?_
    refine wn ?_
    refine c_cond rfl (fun h => (c_skip (t_n ?_))) (fun h => ?_)
    · exact ft h
    clear h
    refine c_region rfl ?_
    refine s1 (r_eq rfl rfl) ?_
    refine s1 (r_asb rfl) ?_
    refine wn (t_n ?_)
    refine c_cond rfl (fun h => ?_) (fun h => ?_)
    rotate_left
    · exact tf h
    clear h
    refine c_seq ?_
    refine c_sreg rfl ?_
    refine s1 (r_fa rfl) ?_
    refine s1 (r_ld rfl (mm.b 0 rfl) rfl) ?_
    refine s1 (r_eq rfl rfl) ?_
    refine wn ?_
    refine c_cond rfl (fun h => ?_) (fun h => (c_skip (t_n ?_)))
    · exact ft h
    clear h
    refine c_sreg rfl ?_
    refine s1 (r_fa rfl) ?_
    refine s1 (r_ld rfl (mm.b 0 rfl) rfl) ?_
    refine s1 (r_eq rfl rfl) ?_
    refine s1 (r_mvb rfl) ?_
    refine sT rfl rfl (fun h => r_mvb rfl) ?_
    refine s1 (r_and rfl rfl) ?_
    refine s1 (r_mvb rfl) ?_
    refine sT rfl rfl (fun h => r_fa rfl) ?_
    refine sT rfl rfl (fun h => r_ld (sel_t h :) (mm.b 0 rfl) rfl) ?_
    refine sTw (I := Sof mm) rfl rfl mm (fun h => o_c1 (sel_t h :) (c_events07 es hl _ (mm.ro H)) (fun _ _ hh => ⟨hh.1, mm.frame hh.2⟩)) (fun w5 mm => ?_)
    refine s1 (r_and rfl rfl) ?_
    refine s1 (r_mvb rfl) ?_
    refine sT rfl rfl (fun h => r_fa rfl) ?_
    refine sT rfl rfl (fun h => r_ld (sel_t h :) (mm.b 0 rfl) rfl) ?_
    refine sT rfl rfl (fun h => r_eq (sel_t h :) rfl) ?_
    refine sT rfl rfl (fun h => r_mvb (sel_t h :)) ?_
    refine sFs rfl rfl (fun h => r_fa rfl) ?_
    refine sFs rfl rfl (fun h => r_ld (sel_t h :) (mm.b 0 rfl) rfl) ?_
    refine sFs rfl rfl (fun h => r_len (sel_t h :)) ?_
    refine sFs rfl rfl (fun h => r_gt (sel_t h :) rfl) ?_
    refine sT rfl rfl (fun h => r_or (sel_t h :) (sel_and h :)) ?_
    refine s1 (r_and rfl rfl) ?_
    refine s1 (r_asb rfl) ?_
    refine wn ?_
    refine c_ret (ret1 rfl rfl ⟨congrArg Value.bool (frMay_b (.inr rfl) hr.1 hr.2 (fun hk => absurd hk (by decide)) _ ?_), mm.chg⟩)
    have e20 : (((es.length : Nat) : Int) ≤ 20) ↔ es.length ≤ 20 := by omega
    have epos : (0 < ((es.length : Nat) : Int)) ↔ es ≠ [] := by rw [← List.length_pos_iff]; omega
    simp only [Bool.and_eq_true, Bool.or_eq_true, decide_eq_true_eq, es_may, e20, epos]
    simp [and_assoc]
  by_cases k2 : k = 2
  · subst k2
    refine c_seq ?_
    refine c_sreg rfl ?_
    refine s1 (r_eq rfl rfl) ?_
    refine s1 (r_asb rfl) ?_
    refine wn ?_
    refine c_cond rfl (fun h => (c_skip (t_n ?_))) (fun h => ?_)
    · exact ft h
    clear h
    refine c_region rfl ?_
    refine s1 (r_eq rfl rfl) ?_
    refine s1 (r_asb rfl) ?_
    refine wn (t_n ?_)
    refine c_cond rfl (fun h => ?_) (fun h => ?_)
    · exact ft h
    clear h
    refine c_sreg rfl ?_
    refine s1 (r_eq rfl rfl) ?_
    refine s1 (r_asb rfl) ?_
    refine wn ?_
    refine c_cond rfl (fun h => ?_) (fun h => ?_)
    rotate_left
    · exact tf h
    clear h
    refine c_sreg rfl ?_
    refine s1 (r_fa rfl) ?_
    refine s1 (r_ld rfl (mm.b 0 rfl) rfl) ?_
    refine so (o_c1 rfl (c_in07 u _) ?_)
    rintro _ w6 ⟨rfl, hc⟩
    have mm := mm.frame hc
    refine s1 (r_mvb rfl) ?_
    refine sT rfl rfl (fun h => r_mvb rfl) ?_
    refine s1 (r_and rfl rfl) ?_
    refine s1 (r_mvb rfl) ?_
    refine sT rfl rfl (fun h => r_fa rfl) ?_
    refine sT rfl rfl (fun h => r_ld (sel_t h :) (mm.b 0 rfl) rfl) ?_
    refine sT rfl rfl (fun h => r_len (sel_t h :)) ?_
    refine sT rfl rfl (fun h => r_eq (sel_t h :) rfl) ?_
    refine s1 (r_and rfl rfl) ?_
    refine s1 (r_asb rfl) ?_
    refine wn ?_
    refine c_ret (ret1 rfl rfl ⟨congrArg Value.bool (frMay_u hr.1 hr.2 _ ?_), mm.chg⟩)
    have e20 : (((es.length : Nat) : Int) = 0) ↔ es.length = 0 := by omega
    simp only [Bool.and_eq_true, decide_eq_true_eq, e20]
    simp [and_assoc]
  by_cases k3 : k = 3
  · subst k3
    refine c_seq ?_
    refine c_sreg rfl ?_
    refine s1 (r_eq rfl rfl) ?_
    refine s1 (r_asb rfl) ?_
    refine wn ?_
    refine c_cond rfl (fun h => (c_skip (t_n ?_))) (fun h => ?_)
    · exact ft h
    clear h
    refine c_region rfl ?_
    refine s1 (r_eq rfl rfl) ?_
    refine s1 (r_asb rfl) ?_
    refine wn (t_n ?_)
    refine c_cond rfl (fun h => ?_) (fun h => ?_)
    · exact ft h
    clear h
    refine c_sreg rfl ?_
    refine s1 (r_eq rfl rfl) ?_
    refine s1 (r_asb rfl) ?_
    refine wn ?_
    refine c_cond rfl (fun h => ?_) (fun h => ?_)
    · exact ft h
    clear h
    refine c_seq ?_
    refine c_sreg rfl ?_
    refine s1 (r_eq rfl rfl) ?_
    refine s1 (r_asb rfl) ?_
    refine wn ?_
    refine c_cond rfl (fun h => (c_skip (t_n ?_))) (fun h => ?_)
    rotate_left
    · exact tf h
    clear h
    refine c_cond rfl (fun h => ?_) (fun h => (c_skip (b_n (t_n ?_))))
    rotate_left
    · exact tf h
    clear h
    refine c_sreg rfl ?_
    refine s1 (r_fa rfl) ?_
    refine s1 (r_ld rfl (mm.b 0 rfl) rfl) ?_
    refine s1 (r_eq rfl rfl) ?_
    refine s1 (r_mvb rfl) ?_
    refine sT rfl rfl (fun h => r_fa rfl) ?_
    refine sT rfl rfl (fun h => r_lda (sel_t h :) (mm.b 0 rfl) rfl) ?_
    refine sTw (I := Sof mm) rfl rfl mm (fun h => o_c1 (sel_t h :) (c_clock07 c _) (fun _ _ hh => ⟨hh.1, mm.frame hh.2⟩)) (fun w7 mm => ?_)
    refine s1 (r_and rfl rfl) ?_
    refine s1 (r_mvb rfl) ?_
    refine sT rfl rfl (fun h => r_fa rfl) ?_
    refine sT rfl rfl (fun h => r_ld (sel_t h :) (mm.b 0 rfl) rfl) ?_
    refine sT rfl rfl (fun h => r_len (sel_t h :)) ?_
    refine sT rfl rfl (fun h => r_eq (sel_t h :) rfl) ?_
    refine s1 (r_and rfl rfl) ?_
    refine s1 (r_asb rfl) ?_
    refine wn ?_
    refine c_ret (ret1 rfl rfl ⟨congrArg Value.bool (frMay_c (.inl rfl) hr.1 hr.2 _ ?_), mm.chg⟩)
    have e20 : (((es.length : Nat) : Int) = 0) ↔ es.length = 0 := by omega
    simp only [Bool.and_eq_true, decide_eq_true_eq, e20]
    simp [and_assoc]
  by_cases k5 : k = 5
  · subst k5
    refine c_seq ?_
    refine c_sreg rfl ?_
    refine s1 (r_eq rfl rfl) ?_
    refine s1 (r_asb rfl) ?_
    refine wn ?_
    refine c_cond rfl (fun h => (c_skip (t_n ?_))) (fun h => ?_)
    · exact ft h
    clear h
    refine c_region rfl ?_
    refine s1 (r_eq rfl rfl) ?_
    refine s1 (r_asb rfl) ?_
    refine wn (t_n ?_)
    refine c_cond rfl (fun h => ?_) (fun h => ?_)
    · exact ft h
    clear h
    refine c_sreg rfl ?_
    refine s1 (r_eq rfl rfl) ?_
    refine s1 (r_asb rfl) ?_
    refine wn ?_
    refine c_cond rfl (fun h => ?_) (fun h => ?_)
    · exact ft h
    clear h
    refine c_seq ?_
    refine c_sreg rfl ?_
    refine s1 (r_eq rfl rfl) ?_
    refine s1 (r_asb rfl) ?_
    refine wn ?_
    refine c_cond rfl (fun h => (c_skip (t_n ?_))) (fun h => ?_)
    · exact ft h
    clear h
    refine c_region rfl ?_
    refine s1 (r_eq rfl rfl) ?_
    refine s1 (r_asb rfl) ?_
    refine wn (t_n ?_)
    refine c_cond rfl (fun h => ?_) (fun h => (c_skip (b_n (t_n ?_))))
    rotate_left
    · exact tf h
    clear h
    refine c_sreg rfl ?_
    refine s1 (r_fa rfl) ?_
    refine s1 (r_ld rfl (mm.b 0 rfl) rfl) ?_
    refine s1 (r_eq rfl rfl) ?_
    refine s1 (r_mvb rfl) ?_
    refine sT rfl rfl (fun h => r_fa rfl) ?_
    refine sT rfl rfl (fun h => r_lda (sel_t h :) (mm.b 0 rfl) rfl) ?_
    refine sTw (I := Sof mm) rfl rfl mm (fun h => o_c1 (sel_t h :) (c_clock07 c _) (fun _ _ hh => ⟨hh.1, mm.frame hh.2⟩)) (fun w8 mm => ?_)
    refine s1 (r_and rfl rfl) ?_
    refine s1 (r_mvb rfl) ?_
    refine sT rfl rfl (fun h => r_fa rfl) ?_
    refine sT rfl rfl (fun h => r_ld (sel_t h :) (mm.b 0 rfl) rfl) ?_
    refine sT rfl rfl (fun h => r_len (sel_t h :)) ?_
    refine sT rfl rfl (fun h => r_eq (sel_t h :) rfl) ?_
    refine s1 (r_and rfl rfl) ?_
    refine s1 (r_asb rfl) ?_
    refine wn ?_
    refine c_ret (ret1 rfl rfl ⟨congrArg Value.bool (frMay_c (.inr rfl) hr.1 hr.2 _ ?_), mm.chg⟩)
    have e20 : (((es.length : Nat) : Int) = 0) ↔ es.length = 0 := by omega
    simp only [Bool.and_eq_true, decide_eq_true_eq, e20]
    simp [and_assoc]
  have hno : frMay ⟨k, r, u, c, es⟩ = false := by
    refine Bool.eq_false_iff.2 fun hm => ?_
    have := fHas_in (frMay_ok hm).is
    have h1 : 1 ≤ k ∧ k ≤ 5 := this
    omega
  refine c_seq ?_
  refine c_sreg rfl ?_
  refine s1 (r_eq rfl rfl) ?_
  refine s1 (r_asb rfl) ?_
  refine wn ?_
  refine c_cond rfl (fun h => (c_skip (t_n ?_))) (fun h => ?_)
  · exact absurd (of_decide_eq_true h) k1
  clear h
  refine c_region rfl ?_
  refine s1 (r_eq rfl rfl) ?_
  refine s1 (r_asb rfl) ?_
  refine wn (t_n ?_)
  refine c_cond rfl (fun h => ?_) (fun h => ?_)
  · exact absurd (of_decide_eq_true h) k4
  clear h
  refine c_sreg rfl ?_
  refine s1 (r_eq rfl rfl) ?_
  refine s1 (r_asb rfl) ?_
  refine wn ?_
  refine c_cond rfl (fun h => ?_) (fun h => ?_)
  · exact absurd (of_decide_eq_true h) k2
  clear h
  refine c_seq ?_
  refine c_sreg rfl ?_
  refine s1 (r_eq rfl rfl) ?_
  refine s1 (r_asb rfl) ?_
  refine wn ?_
  refine c_cond rfl (fun h => (c_skip (t_n ?_))) (fun h => ?_)
  · exact absurd (of_decide_eq_true h) k3
  clear h
  refine c_region rfl ?_
  refine s1 (r_eq rfl rfl) ?_
  refine s1 (r_asb rfl) ?_
  refine wn (t_n ?_)
  refine c_cond rfl (fun h => ?_) (fun h => (c_skip (b_n (t_n ?_))))
  · exact absurd (of_decide_eq_true h) k5
  clear h
  refine c_sreg rfl ?_
  refine s1 (r_asb rfl) ?_
  refine wn ?_
  exact c_ret (ret1 rfl rfl ⟨congrArg Value.bool hno.symm, mm.chg⟩)
end Go.Proofs.Ytgdbbaggkoillaa
/- kithref07.read: the walk. -/
namespace Go.Proofs.Ytgdbbaggkoillaa
open K
set_option maxRecDepth 100000
set_option maxHeartbeats 4000000

theorem byteJ (c : UInt8) : IntKind.i64.wrap ((c.toNat : Nat) : Int) = ((c.toNat : Nat) : Int) := by have := c.toNat_lt; exact wi (by omega) (by omega)
theorem nthb (l : List UInt8) (i : Nat) (h : i < l.length) : nth (u8s l) ((i : Int).toNat * 1) = some (u8 (l.getD i 0)) := nth_u8s l i h
theorem evsBd (l : List Ev) (i : Nat) (h : i < l.length) : evsB (l.drop i) = putE l[i] ++ evsB (l.drop (i + 1)) := by
  rw [List.drop_eq_getElem_cons h]
  exact List.flatMap_cons
theorem clkB_pre (c : Clk) (i : Nat) (hi : i ≤ 5) : ∃ u, clkB c 5 = clkB c i ++ u := by
  obtain ⟨d, hd⟩ : ∃ d, i + d = 5 := ⟨5 - i, by omega⟩
  rw [← hd]
  clear hd hi
  induction d with
  | zero => exact ⟨[], (List.append_nil _).symm⟩
  | succ d ih =>
    obtain ⟨u, hu⟩ := ih
    refine ⟨u ++ vput (c.get (i + d)).toNat, ?_⟩
    show clkB c (i + d + 1) = _
    rw [clkB_succ, hu, List.append_assoc]
theorem modM (n : Nat) : ((n : Nat) : Int).tmod 2097152 = ((n % 2097152 : Nat) : Int) := by rw [Int.tmod_eq_emod_of_nonneg (by omega)]; rfl
theorem K.Mem.castG {w0 w : World} {F0 : Nat → Prop} {I : It} {b : Nat} {cs cs' ds ds' : List Value} {T T' : TypeId} {sz n n' c : Nat} {a : Option Addr} (h : Mem w0 F0 w [I, bk b cs T, own T' sz a n c ds]) (hc : cs = cs') (hn : n = n') (hd : ds = ds') : Mem w0 F0 w [I, bk b cs' T, own T' sz a n' c ds'] := by subst hc; subst hn; subst hd; exact h
/-- What is to be read exactly. -/
structure RdG (G : Prop) (x : Rec) (s : List UInt8) (k r : Int) : Prop where
  ok : G → FrOk x
  hk : G → k = x.kind
  hr : G → r = x.r
  c2 : G → k = 2 → s.drop 2 = vput x.upto.toNat ∧ x = ⟨2, r, x.upto, clk0, []⟩
  c3 : G → (k = 3 ∨ k = 5) → s.drop 2 = clkB x.c 5 ∧ x = ⟨k, r, 0, x.c, []⟩
  c1 : G → (k = 1 ∨ k = 4) → 2 < s.length ∧ s.getD 2 0 = UInt8.ofNat x.es.length ∧ s.drop 3 = evsB x.es ∧ x = ⟨k, r, 0, clk0, x.es⟩
theorem rdG (s : List UInt8) : ∃ (G : Prop) (x : Rec), RdG G x s ((s.getD 0 0).toNat : Nat) ((s.getD 1 0).toNat : Nat) ∧ (∀ y, FrOk y → s = bodyF y → G ∧ y = x) := by
  by_cases h : ∃ y, FrOk y ∧ s = bodyF y
  · obtain ⟨x, ok, rfl⟩ := h
    have hkin := fHas_in ok.is
    have hk : (((bodyF x).getD 0 0).toNat : Int) = x.kind := byteN _ (by omega) (by omega)
    have hr : (((bodyF x).getD 1 0).toNat : Int) = x.r := byteN _ ok.r0 (by have := ok.r5; omega)
    refine ⟨True, x, ⟨fun _ => ok, fun _ => hk, fun _ => hr, fun _ h2 => ?_, fun _ h2 => ?_, fun _ h2 => ?_⟩, fun y oky hy => ⟨trivial, ?_⟩⟩
    · rw [hk] at h2
      have hf : fHas x.kind = 2 := by rw [h2]; rfl
      have e2 : (bodyF x).drop 2 = (if fHas x.kind = 2 then vput x.upto.toNat else if fHas x.kind = 3 then clkB x.c 5 else UInt8.ofNat x.es.length :: evsB x.es) := rfl
      refine ⟨by rw [e2, if_pos hf], ?_⟩
      have h1 := ok.h1.resolve_left (by rw [hf]; decide)
      have h3 := ok.h3.resolve_left (by rw [hf]; decide)
      rw [hr]
      obtain ⟨k, r, u, c, es⟩ := x
      simp only at h1 h3 h2
      subst h1; subst h3; subst h2
      rfl
    · rw [hk] at h2
      have hf : fHas x.kind = 3 := by rcases h2 with h2 | h2 <;> rw [h2] <;> rfl
      have e2 : (bodyF x).drop 2 = (if fHas x.kind = 2 then vput x.upto.toNat else if fHas x.kind = 3 then clkB x.c 5 else UInt8.ofNat x.es.length :: evsB x.es) := rfl
      refine ⟨by rw [e2, if_neg (by rw [hf]; decide), if_pos hf], ?_⟩
      have h1 := ok.h1.resolve_left (by rw [hf]; decide)
      have h3 := ok.h2.resolve_left (by rw [hf]; decide)
      rw [hr, hk]
      obtain ⟨k, r, u, c, es⟩ := x
      simp only at h1 h3
      subst h1; subst h3
      rfl
    · rw [hk] at h2
      have hf : fHas x.kind = 1 := by rcases h2 with h2 | h2 <;> rw [h2] <;> rfl
      have e2 : (bodyF x).drop 2 = (if fHas x.kind = 2 then vput x.upto.toNat else if fHas x.kind = 3 then clkB x.c 5 else UInt8.ofNat x.es.length :: evsB x.es) := rfl
      rw [if_neg (by rw [hf]; decide), if_neg (by rw [hf]; decide)] at e2
      have hl3 := bodyF_len3 x
      have e3 : (bodyF x).drop 3 = evsB x.es := by
        have : (bodyF x).drop 3 = ((bodyF x).drop 2).drop 1 := by rw [List.drop_drop]
        rw [this, e2]; rfl
      have e4 : (bodyF x).getD 2 0 = UInt8.ofNat x.es.length := by
        have h5 : ((bodyF x).drop 2).getD 0 0 = (bodyF x).getD 2 0 := by simp [List.getD, List.getElem?_drop]
        rw [← h5, e2]; rfl
      refine ⟨hl3, e4, e3, ?_⟩
      have h1 := ok.h2.resolve_left (by rw [hf]; decide)
      have h3 := ok.h3.resolve_left (by rw [hf]; decide)
      rw [hr, hk]
      obtain ⟨k, r, u, c, es⟩ := x
      simp only at h1 h3
      subst h1; subst h3
      rfl
    · have q1 := bodyT_of (frMay_of ok)
      have q2 := bodyT_of (frMay_of oky)
      rw [← hy, q1] at q2
      cases q2; rfl
  · exact ⟨False, rec0, ⟨fun g => g.elim, fun g => g.elim, fun g => g.elim, fun g => g.elim, fun g => g.elim, fun g => g.elim⟩, fun y h1 h2 => absurd ⟨y, h1, h2⟩ h⟩
theorem c_read07 (s : List UInt8) (hl : s.length ≤ 1000000) (v : Value) (w : World) (hs : Sl w v s) : Cl Try.prog 68 #[v] w
    (fun r w' => ∃ f a' c', r = .agg (recV f a' c').toArray ∧ ClkW f.c ∧ f.es.length ≤ 21 ∧ (∀ y, FrOk y → s = bodyF y → f = y) ∧ Chg No w w' ∧ NewR w w' a' c' f.es) := by
  obtain ⟨a, c, rfl, hcc, H⟩ := hs
  refine f_enter (args := [_]) Try.func68 rfl rfl ?_
  have mm := Mem.nil No w
  refine c_sreg rfl ?_
  refine so (o_al mm fun b2 w2 mm => ?_)
  refine wn ?_
  refine c_seq ?_
  refine c_sreg rfl ?_
  refine s1 (r_mvs rfl) ?_
  refine s1 (r_len rfl) ?_
  refine s1 (r_lt rfl rfl) ?_
  refine wn ?_
  refine c_cond rfl (fun h => ?_) (fun h => (c_skip (t_n ?_)))
  · have h2 : s.length < 2 := by simp at h; omega
    refine c_sreg rfl ?_
    refine s1 (r_bd bN rfl) ?_
    refine ss (o_sta mm 0 rfl rfl rfl rfl rfl (Nat.le_of_ble_eq_true rfl) fun w3 mm => ?_)
    refine wn ?_
    have mm := mm.nilrow (T := 25) (sz := 12)
    refine c_ret (retc rfl rfl (mm.b 0 rfl) rfl ⟨rec0, none, 0, rfl, clk0_w, by show 0 ≤ 21; decide, fun y oky hy => ?_, mm.chg, mm.isNew 1 rfl⟩)
    have := bodyF_len3 y
    rw [← hy] at this
    omega
  have h2 : 2 ≤ s.length := by simp at h; omega
  clear h
  refine c_sdraw2 mixed [(0, some 0), (1, some 0), (4, some 0), (5, some 0), (2, some 2), (3, some 0), (6, some 2), (7, some 2), (8, some 0), (9, none), (10, none)] [0, 0, 0, 0, 0, 0, 2, 2, 0, 2, 0] (Sof (mm.pk [] (by decide))) (Sof (mm.pk [] (by decide))) (fun _ h => h) (by kernel_rfl) rfl rfl (by kernel_rfl) (fun w4 hc => ?_)
  have mm := mm.frame hc
  refine q01 rfl (fun w => r_mvs rfl) ?_
  refine q01 rfl (fun w => r_ix rfl rfl (by omega) (by omega) (((mm.ro H)).some (nth_u8s s 0 (by omega)))) ?_
  refine q01 rfl (fun w => r_mvs rfl) ?_
  refine q01 rfl (fun w => r_ix rfl rfl (by omega) (by omega) (((mm.ro H)).some (nth_u8s s 0 (by omega)))) ?_
  refine qA1 rfl (fun w m => r_ldc rfl (m.ro H) (nth_u8s s 0 (by omega))) (mm.pk [] (by decide)) ?_
  refine q01 rfl (fun w => r_cv rfl (byteJ _)) ?_
  refine qA1 rfl (fun w m => r_ldc rfl (m.ro H) (nth_u8s s 1 (by omega))) (mm.pk [] (by decide)) ?_
  refine qA1 rfl (fun w m => r_cv rfl (byteJ _)) (mm.pk [] (by decide)) ?_
  refine q01 rfl (fun w => r_bd (bi rfl (bi rfl bN)) rfl) ?_
  refine qo rfl (o_al mm fun b5 w5 mm => ⟨(mm.pk [] (by decide)), ?_⟩)
  refine qs rfl (o_sta mm 1 rfl rfl rfl rfl rfl (Nat.le_of_ble_eq_true rfl) fun w6 mm => ⟨trivial, ?_⟩)
  refine qn ?_
  obtain ⟨G, x, hG, hGn⟩ := rdG s
  generalize (((s.getD 0 0).toNat : Nat) : Int) = k at *
  generalize (((s.getD 1 0).toNat : Nat) : Int) = r at *
  have mm : Mem w No _ [bk b2 (recV rec0 none 0) 47, bk b5 (recV ⟨k, r, 0, clk0, []⟩ none 0) 47] := mm
  refine c_sreg rfl ?_
  refine s1 (r_asi rfl) ?_
  refine wn ?_
  refine c_seq ?_
  refine c_sreg rfl ?_
  refine s1 (r_fa rfl) ?_
  refine s1 (r_ld rfl (mm.b 1 rfl) rfl) ?_
  refine wn ?_
  refine c_mid0 (fun e w' => ∃ f ao co, e 2 = .pointer (some ⟨b2, 0, none⟩) ∧ e 3 = .pointer (some ⟨b5, 0, none⟩) ∧ Mem w No w' [bk b2 (recV rec0 none 0) 47, bk b5 (recV f ao co) 47, own 25 12 ao f.es.length co (evsC f.es)] ∧ ClkW f.c ∧ f.es.length ≤ 21 ∧ (G → f = x)) ?_ ?_
  · refine c_block ?_
    by_cases k2 : k = 2
    · subst k2
      refine c_sreg rfl ?_
      refine s1 (r_eq rfl rfl) ?_
      refine s1 (r_asb rfl) ?_
      refine wn ?_
      refine c_cond rfl (fun h => ?_) (fun h => ?_)
      rotate_left
      · exact tf h
      clear h
      refine c_sreg rfl ?_
      refine s1 (r_mvs rfl) ?_
      refine s1 (r_mvi rfl) ?_
      refine s1 (r_sll rfl rfl (by omega) (by omega)) ?_
      refine so (o_c1 rfl (c_take01 (s.drop 2) (by rw [List.length_drop]; omega) _ _ (by have := Sl.drop (mm.ro H) hcc 2 h2; exact this)) ?_)
      rintro _ w7 ⟨n, j, cd, rfl, hcase, hc⟩
      have mm := mm.frame hc
      refine s1 (r_mvu rfl) ?_
      refine s1 (r_exti rfl rfl) ?_
      refine s1 (r_exti rfl rfl) ?_
      refine s1 (r_exti rfl rfl) ?_
      refine s1 (r_asi rfl) ?_
      refine s1 (r_asi rfl) ?_
      refine s1 (r_asi rfl) ?_
      refine wn ?_
      have hn : n % 2097152 < 2097152 := Nat.mod_lt _ (by decide)
      refine c_region rfl ?_
      refine s1 (r_mvi rfl) ?_
      refine s1 (r_rem rfl rfl (by decide) (modM n)) ?_
      refine s1 (r_cv rfl (wi (by omega) (by omega))) ?_
      refine s1 (r_fa rfl) ?_
      refine ss (o_st mm 1 rfl rfl rfl rfl rfl fun w8 mm => ?_)
      refine wn (b_n (t_n ?_))
      have mm : Mem w No _ [bk b2 (recV rec0 none 0) 47, bk b5 (recV ⟨2, r, ((n % 2097152 : Nat) : Int), clk0, []⟩ none 0) 47] := mm
      refine ⟨_, none, 0, rfl, rfl, mm.nilrow, clk0_w, by show 0 ≤ 21; decide, fun g => ?_⟩
      obtain ⟨e1, e2⟩ := hG.c2 g rfl
      have ok := hG.ok g
      have hv := vtake_put10 x.upto.toNat (by have := ok.u1; omega) []
      rw [List.append_nil, ← e1] at hv
      rcases hcase with ⟨_, hh⟩ | ⟨_, _, _, hh⟩
      · rw [hv] at hh
        injection hh with hh _
        rw [e2]
        have h0 := ok.u0; have h1 := ok.u1
        have : ((n % 2097152 : Nat) : Int) = x.upto := by omega
        rw [this]
      · rw [hv] at hh
        exact absurd rfl hh
    by_cases k35 : k = 3 ∨ k = 5
    · skip
      refine c_sreg rfl ?_
      refine s1 (r_eq rfl rfl) ?_
      refine s1 (r_asb rfl) ?_
      refine wn ?_
      refine c_cond rfl (fun h => ?_) (fun h => ?_)
      · exact absurd (of_decide_eq_true h) k2
      clear h
      refine c_seq ?_
      refine c_sreg rfl ?_
      refine s1 (r_eq rfl rfl) ?_
      refine s1 (r_asb rfl) ?_
      refine wn ?_
      refine c_mid0 (fun e w' => e 0 = .slice a s.length c ∧ e 2 = .pointer (some ⟨b2, 0, none⟩) ∧ e 3 = .pointer (some ⟨b5, 0, none⟩) ∧ e 4 = .int .i64 2 ∧ e 45 = .bool true ∧ Mem w No w' [bk b2 (recV rec0 none 0) 47, bk b5 (recV ⟨k, r, 0, clk0, []⟩ none 0) 47]) ?_ ?_
      · refine c_cond rfl (fun h => (c_skip (t_n ?_))) (fun h => ?_)
        · exact ⟨rfl, rfl, rfl, rfl, congrArg Value.bool h, mm⟩
        · refine c_region rfl ?_
          refine s1 (r_eq rfl rfl) ?_
          refine s1 (r_asb rfl) ?_
          refine wn (t_n ?_)
          refine ⟨rfl, rfl, rfl, rfl, congrArg Value.bool (?_ : _ = true), mm⟩
          exact decide_eq_true (k35.resolve_left (of_decide_eq_false h))
      clear mm
      rintro e w9 ⟨h0, h2', h3, h4, h45, mm⟩
      refine c_cond h45 (fun h => ?_) (fun h => ?_)
      rotate_left
      · exact tf h
      clear h h45
      refine c_sreg rfl ?_
      refine s1 (r_asi rfl) ?_
      refine wn ?_
      refine c_block ?_
      refine c_loop (fun kk e w' => ∃ (i at_ : Nat) (cl : Clk), kk + i = 5 ∧ e 0 = .slice a s.length c ∧ e 2 = .pointer (some ⟨b2, 0, none⟩) ∧ e 3 = .pointer (some ⟨b5, 0, none⟩) ∧ e 4 = .int .i64 (at_ : Nat) ∧ e 8 = .int .i64 (i : Nat) ∧ Mem w No w' [bk b2 (recV rec0 none 0) 47, bk b5 (recV ⟨k, r, 0, cl, []⟩ none 0) 47] ∧ at_ ≤ s.length ∧ ClkW cl ∧ (G → (∃ u, clkB x.c 5 = clkB x.c i ++ u ∧ s.drop at_ = u) ∧ ∀ j, j < i → cl.get j = x.c.get j)) 5 ?_ ?_
      · exact ⟨0, 2, clk0, rfl, h0, h2', h3, h4, rfl, mm, h2, clk0_w, fun g => ⟨⟨clkB x.c 5, rfl, (hG.c3 g k35).1⟩, fun j hj => absurd hj (by omega)⟩⟩
      clear mm h0 h2' h3 h4
      rintro kk e w9 ⟨i, at_, cl, hki, h0, h2', h3, h4, h8, mm, hat, hcw, hg⟩
      refine c_seq ?_
      refine c_sreg rfl ?_
      refine s1 (r_mvi h8) ?_
      refine s1 (r_lt rfl rfl) ?_
      refine wn ?_
      refine c_cond rfl (fun h => (c_skip (t_n ?_))) (fun h => (c_exit (t_x (t_x (b_x (b_n (t_n ?_)))))))
      · have hi : i < 5 := by simp at h; omega
        clear h
        refine c_seq ?_
        refine c_block ?_
        refine c_sreg rfl ?_
        refine s1 (r_mvs h0) ?_
        refine s1 (r_mvi h4) ?_
        refine s1 (r_sll rfl rfl (by omega) (by omega)) ?_
        refine so (o_c1 rfl (c_take01 (s.drop at_) (by rw [List.length_drop]; omega) _ _ (by have := Sl.drop (mm.ro H) hcc at_ hat; exact this)) ?_)
        rintro _ w9 ⟨n, j, cd, rfl, hcase, hc⟩
        have mm := mm.frame hc
        refine s1 (r_mvu rfl) ?_
        refine s1 (r_exti rfl rfl) ?_
        refine s1 (r_exti rfl rfl) ?_
        refine s1 (r_exti rfl rfl) ?_
        refine s1 (r_asi rfl) ?_
        refine s1 (r_asi rfl) ?_
        refine s1 (r_asi rfl) ?_
        refine wn ?_
        have hn : n % 2097152 < 2097152 := Nat.mod_lt _ (by decide)
        have hj : at_ + j ≤ s.length := by
          rcases hcase with ⟨_, hh⟩ | ⟨_, _, hj0, _⟩
          · have := (vtake_ok hh).2.2.1
            rw [List.length_drop] at this
            omega
          · omega
        refine c_sreg rfl ?_
        refine s1 (r_mvi h8) ?_
        refine s1 (r_mvi rfl) ?_
        refine s1 (r_rem rfl rfl (by decide) (modM n)) ?_
        refine s1 (r_cv rfl (wi (by omega) (by omega))) ?_
        refine s1 (r_fa h3) ?_
        refine s1 (r_ixa rfl rfl (by omega) (by omega)) ?_
        refine ss (o_st mm 1 rfl rfl rfl rfl (blt_rvi _ _ _ i hi) fun w10 mm => ?_)
        refine wn ?_
        have mm := mm.casta (setN_rvi _ _ _ i hi _)
        refine c_region rfl ?_
        refine s1 (r_mvi h4) ?_
        refine s1 (r_mvi rfl) ?_
        refine s1 (r_add rfl rfl (show IntKind.i64.wrap (((at_ : Nat) : Int) + ((j : Nat) : Int)) = ((at_ + j : Nat) : Int) from by rw [wi (by omega) (by omega)]; omega)) ?_
        refine s1 (r_asi rfl) ?_
        refine wn (b_n (t_n ?_))
        refine c_region rfl ?_
        refine s1 (r_mvi h8) ?_
        refine s1 (r_add rfl rfl (wi (by omega) (by omega))) ?_
        refine s1 (r_asi rfl) ?_
        refine wn (t_n ?_)
        refine ⟨kk - 1, by omega, i + 1, at_ + j, cl.set i ((n % 2097152 : Nat) : Int), by omega, h0, h2', h3, rfl, rfl, mm, hj, ?_, fun g => ?_⟩
        · refine clkW_of fun j2 hj2 => ?_
          rw [Clk.get_set _ _ _ hi hj2]
          split
          · unfold i64; omega
          · exact clkW_to hcw j2 hj2
        · obtain ⟨⟨u, hu1, hu2⟩, hcl⟩ := hg g
          have ok := hG.ok g
          have hci := ok.c i hi
          obtain ⟨u', hu'⟩ := clkB_pre x.c (i + 1) hi
          have hcut : u = vput (x.c.get i).toNat ++ u' := by
            have hsn := clkB_succ x.c i
            have hc := hu1.symm.trans hu'
            rw [hsn, List.append_assoc] at hc
            exact List.append_cancel_left hc
          have hv := vtake_put10 (x.c.get i).toNat (by omega) u'
          rw [← hcut, ← hu2] at hv
          rcases hcase with ⟨_, hh⟩ | ⟨_, _, _, hh⟩
          · rw [hv] at hh
            injection hh with hh hh2
            injection hh2 with hh2 _
            refine ⟨⟨u', hu', ?_⟩, fun j2 hj2 => ?_⟩
            · rw [← List.drop_drop, hu2, hcut, ← hh2, List.drop_left]
            · rw [Clk.get_set _ _ _ hi (by omega)]
              by_cases hij : i = j2
              · rw [if_pos hij, ← hij]; omega
              · rw [if_neg hij]; exact hcl j2 (by omega)
          · rw [hv] at hh
            exact absurd rfl hh
      have hi : i = 5 := by simp at h; omega
      subst hi
      refine ⟨_, none, 0, h2', h3, mm.nilrow, hcw, by show 0 ≤ 21; decide, fun g => ?_⟩
      have e2 := (hG.c3 g k35).2
      have hcx : cl = x.c := Clk.ext' fun j hj => (hg g).2 j hj
      rw [hcx]
      exact e2.symm
    by_cases k14 : k = 1 ∨ k = 4
    · skip
      refine c_sreg rfl ?_
      refine s1 (r_eq rfl rfl) ?_
      refine s1 (r_asb rfl) ?_
      refine wn ?_
      refine c_cond rfl (fun h => ?_) (fun h => ?_)
      · exact absurd (of_decide_eq_true h) k2
      clear h
      refine c_seq ?_
      refine c_sreg rfl ?_
      refine s1 (r_eq rfl rfl) ?_
      refine s1 (r_asb rfl) ?_
      refine wn ?_
      refine c_cond rfl (fun h => (c_skip (t_n ?_))) (fun h => ?_)
      · exact absurd (.inl (of_decide_eq_true h)) k35
      clear h
      refine c_region rfl ?_
      refine s1 (r_eq rfl rfl) ?_
      refine s1 (r_asb rfl) ?_
      refine wn (t_n ?_)
      refine c_cond rfl (fun h => ?_) (fun h => ?_)
      · exact absurd (.inr (of_decide_eq_true h)) k35
      clear h
      refine c_seq ?_
      refine c_sreg rfl ?_
      refine s1 (r_eq rfl rfl) ?_
      refine s1 (r_asb rfl) ?_
      refine wn ?_
      refine c_mid0 (fun e w' => e 0 = .slice a s.length c ∧ e 2 = .pointer (some ⟨b2, 0, none⟩) ∧ e 3 = .pointer (some ⟨b5, 0, none⟩) ∧ e 69 = .bool true ∧ Mem w No w' [bk b2 (recV rec0 none 0) 47, bk b5 (recV ⟨k, r, 0, clk0, []⟩ none 0) 47]) ?_ ?_
      · refine c_cond rfl (fun h => (c_skip (t_n ?_))) (fun h => ?_)
        · exact ⟨rfl, rfl, rfl, congrArg Value.bool h, mm⟩
        · refine c_region rfl ?_
          refine s1 (r_eq rfl rfl) ?_
          refine s1 (r_asb rfl) ?_
          refine wn (t_n ?_)
          refine ⟨rfl, rfl, rfl, congrArg Value.bool (?_ : _ = true), mm⟩
          exact decide_eq_true (k14.resolve_left (of_decide_eq_false h))
      clear mm
      rintro e w9 ⟨h0, h2', h3, h69, mm⟩
      refine c_cond h69 (fun h => ?_) (fun h => (c_skip (b_n (t_n ?_))))
      rotate_left
      · exact tf h
      clear h h69
      refine c_sreg rfl ?_
      refine s1 (r_asi rfl) ?_
      refine wn ?_
      refine c_sreg rfl ?_
      refine s1 (r_asi rfl) ?_
      refine wn ?_
      refine c_block ?_
      refine c_loop (fun kk e w' => ∃ (i at_ : Nat) (l : List Ev) (ao : Option Addr) (co : Nat), kk + i = 21 ∧ e 0 = .slice a s.length c ∧ e 2 = .pointer (some ⟨b2, 0, none⟩) ∧ e 3 = .pointer (some ⟨b5, 0, none⟩) ∧ e 4 = .int .i64 (at_ : Nat) ∧ e 12 = .int .i64 (i : Nat) ∧ Mem w No w' [bk b2 (recV rec0 none 0) 47, bk b5 (recV ⟨k, r, 0, clk0, l⟩ ao co) 47, own 25 12 ao l.length co (evsC l)] ∧ l.length = i ∧ (2 < s.length → at_ ≤ s.length) ∧ (G → i ≤ x.es.length ∧ l = x.es.take i ∧ s.drop at_ = evsB (x.es.drop i))) 21 ?_ ?_
      · exact ⟨0, 3, [], none, 0, rfl, h0, h2', h3, rfl, rfl, mm.nilrow, rfl, fun h => h, fun g => ⟨Nat.zero_le _, rfl, (hG.c1 g k14).2.2.1⟩⟩
      clear mm h0 h2' h3
      rintro kk e w9 ⟨i, at_, l, ao, co, hki, h0, h2', h3, h4, h12, mm, hli, hat, hg⟩
      refine c_seq ?_
      refine c_sreg rfl ?_
      refine s1 (r_mvs h0) ?_
      refine s1 (r_len rfl) ?_
      refine s1 (r_gt rfl rfl) ?_
      refine s1 (r_mvb rfl) ?_
      refine sT rfl rfl (fun h => r_mvi h12) ?_
      refine sT rfl rfl (fun h => r_mvs h0) ?_
      refine sT rfl rfl (fun h => r_ix (sel_t h :) rfl (by omega) (by simp at h; omega) ((mm.ro H).some (nth_u8s s 2 (by simp at h; omega)))) ?_
      refine sT rfl rfl (fun h => r_ldc (sel_t h :) (mm.ro H) (nth_u8s s 2 (by simp at h; omega))) ?_
      refine sT rfl rfl (fun h => r_cv (sel_t h :) (byteJ _)) ?_
      refine sT rfl rfl (fun h => r_lt (sel_t h :) (sel_t h :)) ?_
      refine s1 (r_and rfl rfl) ?_
      refine s1 (r_mvb rfl) ?_
      refine sT rfl rfl (fun h => r_mvi h12) ?_
      refine sT rfl rfl (fun h => r_le (sel_t h :) rfl) ?_
      refine s1 (r_and rfl rfl) ?_
      refine wn ?_
      refine c_cond rfl (fun h => (c_skip (t_n ?_))) (fun h => (c_exit (t_x (t_x (b_x (b_n (t_n ?_)))))))
      · have hi : 2 < s.length ∧ i < (s.getD 2 0).toNat ∧ i ≤ 20 := by
          simp only [Bool.and_eq_true, decide_eq_true_eq] at h
          omega
        clear h
        have hat := hat hi.1
        refine c_seq ?_
        refine c_block ?_
        refine c_sreg rfl ?_
        refine s1 (r_mvs h0) ?_
        refine s1 (r_mvi h4) ?_
        refine s1 (r_sll rfl rfl (by omega) (by omega)) ?_
        refine so (o_c1 rfl (c_take06 (s.drop at_) (by rw [List.length_drop]; omega) _ _ (by have := Sl.drop (mm.ro H) hcc at_ hat; exact this)) ?_)
        rintro _ w11 ⟨y, j, cd, rfl, hj, hex, hc⟩
        have mm := mm.frame hc
        refine s1 (r_mvu rfl) ?_
        refine s1 (r_extg rfl rfl) ?_
        refine s1 (r_exti rfl rfl) ?_
        refine s1 (r_exti rfl rfl) ?_
        refine so (o_al mm fun b12 w12 mm => ?_)
        refine ss (o_sta mm 3 rfl rfl rfl rfl rfl (Nat.le_of_ble_eq_true rfl) fun w13 mm => ?_)
        refine s1 (r_asi rfl) ?_
        refine s1 (r_asi rfl) ?_
        refine wn ?_
        rw [List.length_drop] at hj
        refine c_sreg rfl ?_
        refine s1 (r_fa h3) ?_
        refine s1 (r_ld rfl (mm.b 1 rfl) rfl) ?_
        refine s1 (r_lda rfl (mm.b 3 rfl) rfl) ?_
        refine so (o_bg mm (bg rfl bN) rfl rfl (by decide) (by decide) (by decide) fun a14 c14 w14 mm => ?_)
        refine so (o_ap mm 2 rfl rfl rfl (src_own mm 4 rfl rfl) (by omega) (by unfold maxLen; omega) fun a15 c15 w15 mm => ?_)
        refine s1 (r_fa h3) ?_
        refine ss (o_st mm 1 rfl rfl rfl rfl rfl fun w16 mm => ?_)
        refine wn ?_
        have hsn : evsC (l ++ [y]) = evsC l ++ evC y := by rw [evsC_append]; simp [evsC]
        have hle : (l ++ [y]).length = l.length + 1 := by rw [List.length_append]; rfl
        have mm := (mm.pk [0, 1, 2] (by decide)).castG (cs' := recV ⟨k, r, 0, clk0, l ++ [y]⟩ _ _) (n' := (l ++ [y]).length) (ds' := evsC (l ++ [y])) (by simp only [recV, hle]; rfl) hle.symm (by rw [hsn]; rfl)
        refine c_region rfl ?_
        refine s1 (r_mvi h4) ?_
        refine s1 (r_mvi rfl) ?_
        refine s1 (r_add rfl rfl (show IntKind.i64.wrap (((at_ : Nat) : Int) + ((j : Nat) : Int)) = ((at_ + j : Nat) : Int) from by rw [wi (by omega) (by omega)]; omega)) ?_
        refine s1 (r_asi rfl) ?_
        refine wn (b_n (t_n ?_))
        refine c_region rfl ?_
        refine s1 (r_mvi h12) ?_
        refine s1 (r_add rfl rfl (wi (by omega) (by omega))) ?_
        refine s1 (r_asi rfl) ?_
        refine wn (t_n ?_)
        refine ⟨kk - 1, by omega, i + 1, at_ + j, l ++ [y], _, _, by omega, h0, h2', h3, rfl, rfl, mm, by omega, fun _ => by omega, fun g => ?_⟩
        obtain ⟨g1, g2, g3⟩ := hg g
        have ok := hG.ok g
        have hmost := ok.most
        have hlen : (s.getD 2 0).toNat = x.es.length := by rw [(hG.c1 g k14).2.1, UInt8.toNat_ofNat']; omega
        have hix : i < x.es.length := by omega
        have hy := evMay_ok (ok.es x.es[i] (List.getElem_mem hix))
        rw [evsBd x.es i hix] at g3
        have ht := takeE_put x.es[i] hy (evsB (x.es.drop (i + 1)))
        rw [← g3] at ht
        obtain ⟨q1, q2, _⟩ := hex (by rw [ht])
        rw [ht] at q1 q2
        refine ⟨by omega, ?_, ?_⟩
        · rw [List.take_succ_eq_append_getElem hix, ← g2, q1]
        · have q2' : ((j : Nat) : Int) = (((putE x.es[i]).length : Nat) : Int) := q2
          have q3 : j = (putE x.es[i]).length := by omega
          rw [← List.drop_drop, g3, q3, List.drop_left]
      have hnot : ¬ (2 < s.length ∧ i < (s.getD 2 0).toNat ∧ i ≤ 20) := fun hh =>
        Bool.eq_false_iff.1 h (by simp only [Bool.and_eq_true, decide_eq_true_eq]; omega)
      clear h
      refine ⟨_, ao, co, h2', h3, mm, clk0_w, by show l.length ≤ 21; omega, fun g => ?_⟩
      obtain ⟨g1, g2, _⟩ := hg g
      obtain ⟨g3, g4, _, g5⟩ := hG.c1 g k14
      have hmost := (hG.ok g).most
      have hlen : (s.getD 2 0).toNat = x.es.length := by rw [g4, UInt8.toNat_ofNat']; omega
      have hi : x.es.length ≤ i := by omega
      rw [List.take_of_length_le hi] at g2
      rw [g2]
      exact g5.symm
    · skip
      refine c_sreg rfl ?_
      refine s1 (r_eq rfl rfl) ?_
      refine s1 (r_asb rfl) ?_
      refine wn ?_
      refine c_cond rfl (fun h => ?_) (fun h => ?_)
      · exact absurd (of_decide_eq_true h) k2
      clear h
      refine c_seq ?_
      refine c_sreg rfl ?_
      refine s1 (r_eq rfl rfl) ?_
      refine s1 (r_asb rfl) ?_
      refine wn ?_
      refine c_cond rfl (fun h => (c_skip (t_n ?_))) (fun h => ?_)
      · exact absurd (.inl (of_decide_eq_true h)) k35
      clear h
      refine c_region rfl ?_
      refine s1 (r_eq rfl rfl) ?_
      refine s1 (r_asb rfl) ?_
      refine wn (t_n ?_)
      refine c_cond rfl (fun h => ?_) (fun h => ?_)
      · exact absurd (.inr (of_decide_eq_true h)) k35
      clear h
      refine c_seq ?_
      refine c_sreg rfl ?_
      refine s1 (r_eq rfl rfl) ?_
      refine s1 (r_asb rfl) ?_
      refine wn ?_
      refine c_cond rfl (fun h => (c_skip (t_n ?_))) (fun h => ?_)
      · exact absurd (.inl (of_decide_eq_true h)) k14
      clear h
      refine c_region rfl ?_
      refine s1 (r_eq rfl rfl) ?_
      refine s1 (r_asb rfl) ?_
      refine wn (t_n ?_)
      refine c_cond rfl (fun h => ?_) (fun h => (c_skip (b_n (t_n ?_))))
      · exact absurd (.inr (of_decide_eq_true h)) k14
      clear h
      refine ⟨_, none, 0, rfl, rfl, mm.nilrow, clk0_w, by show 0 ≤ 21; decide, fun g => ?_⟩
      exfalso
      have h1 := fHas_in (hG.ok g).is
      rw [← hG.hk g] at h1
      omega
  clear mm
  rintro e w9 ⟨f, ao, co, h2', h3, mm, hcw, hel, hg⟩
  refine c_sreg rfl ?_
  refine s1 (r_lda h3 (mm.b 1 rfl) rfl) ?_
  refine ss (o_sta mm 0 rfl h2' rfl rfl rfl (Nat.le_of_ble_eq_true rfl) fun w17 mm => ?_)
  refine wn ?_
  refine c_ret (retc rfl h2' (mm.b 0 rfl) rfl ⟨f, ao, co, rfl, hcw, hel, fun y oky hy => ?_, mm.chg, mm.isNew 2 rfl⟩)
  obtain ⟨g, rfl⟩ := hGn y oky hy
  exact hg g
end Go.Proofs.Ytgdbbaggkoillaa
