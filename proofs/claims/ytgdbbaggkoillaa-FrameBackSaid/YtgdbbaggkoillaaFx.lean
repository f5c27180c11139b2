/- frame.has, fits, may: walks. -/
import Derived.Test.YtgdbbaggkoillaaFv
import Derived.Test.YtgdbbaggkoillaaKr
import Derived.Test.YtgdbbaggkoillaaRa
namespace Go.Proofs.Ytgdbbaggkoillaa
open K
set_option maxRecDepth 100000
set_option maxHeartbeats 4000000

def hasM : List MapEntry := [⟨.int .i64 1, .int .i64 1, 0⟩, ⟨.int .i64 2, .int .i64 2, 1⟩, ⟨.int .i64 3, .int .i64 3, 2⟩, ⟨.int .i64 4, .int .i64 1, 3⟩, ⟨.int .i64 5, .int .i64 3, 4⟩]
theorem hasM_find (k : Int) : ∃ r, Instr.findNow (.int .i64) (.int .i64 k) hasM 0 = some r ∧ lkV r (.int .i64 0) = Value.int .i64 (fHas k) := by
  by_cases h1 : k = 1
  · subst h1; exact ⟨_, rfl, rfl⟩
  by_cases h2 : k = 2
  · subst h2; exact ⟨_, rfl, rfl⟩
  by_cases h3 : k = 3
  · subst h3; exact ⟨_, rfl, rfl⟩
  by_cases h4 : k = 4
  · subst h4; exact ⟨_, rfl, rfl⟩
  by_cases h5 : k = 5
  · subst h5; exact ⟨_, rfl, rfl⟩
  have g : ∀ n : Int, k ≠ n → (k == n) = false := fun n h => by simp [h]
  refine ⟨none, ?_, ?_⟩
  · simp [Instr.findNow, Instr.sameNow, hasM, g 1 h1, g 2 h2, g 3 h3, g 4 h4, g 5 h5]
  · show Value.int .i64 0 = _
    unfold fHas
    rw [if_neg h1, if_neg h2, if_neg h3, if_neg h4, if_neg h5]
theorem c_has (k : Int) (w : World) : Cl Try.prog 59 #[.int .i64 k] w (fun v w' => v = .int .i64 (fHas k) ∧ Chg No w w') := by
  obtain ⟨r, hr1, hr2⟩ := hasM_find k
  refine f_enter (args := [_]) Try.func59 rfl rfl ?_
  have mm := Mem.nil No w
  refine c_sreg rfl ?_
  refine s1 (r_asi rfl) ?_
  refine wn ?_
  refine c_sreg rfl ?_
  refine so (o_mkm mm fun b2 w2 mm => ?_)
  refine ss (o_insi mm 0 rfl Try.underlying108 Try.underlying3 rfl rfl rfl rfl fun w3 mm => ?_)
  refine ss (o_insi mm 0 rfl Try.underlying108 Try.underlying3 rfl rfl rfl rfl fun w4 mm => ?_)
  refine ss (o_insi mm 0 rfl Try.underlying108 Try.underlying3 rfl rfl rfl rfl fun w5 mm => ?_)
  refine ss (o_insi mm 0 rfl Try.underlying108 Try.underlying3 rfl rfl rfl rfl fun w6 mm => ?_)
  refine ss (o_insi mm 0 rfl Try.underlying108 Try.underlying3 rfl rfl rfl rfl fun w7 mm => ?_)
  refine s1 (r_mvm rfl) ?_
  refine s1 (r_mvi rfl) ?_
  refine s1 (r_lki mm 0 rfl Try.underlying108 Try.underlying3 (by kernel_rfl) rfl rfl hr1 hr2) ?_
  refine s1 (r_asi rfl) ?_
  refine wn ?_
  exact c_ret (ret1 rfl rfl ⟨rfl, mm.chg⟩)
theorem c_fFits (n : Int) (w : World) : Cl Try.prog 80 #[.int .i64 n] w (fun v w' => v = .bool (inEv n) ∧ Chg No w w') := by
  refine f_enter (args := [_]) Try.func80 rfl rfl ?_
  have mm := Mem.nil No w
  refine c_sreg rfl ?_
  refine s1 (r_asb rfl) ?_
  refine wn ?_
  refine c_sreg rfl ?_
  refine s1 (r_mvi rfl) ?_
  refine s1 (r_ge rfl rfl) ?_
  refine s1 (r_mvb rfl) ?_
  refine sT rfl rfl (fun h => r_mvi rfl) ?_
  refine sT rfl rfl (fun h => r_le (sel_t h :) rfl) ?_
  refine s1 (r_and rfl rfl) ?_
  refine s1 (r_asb rfl) ?_
  refine wn ?_
  exact c_ret (ret1 rfl rfl ⟨rfl, mm.chg⟩)

theorem c_frMay (x : Rec) {a : Option Addr} {cap : Nat} (w : World) (H : Cells w a (evsC x.es)) (hw : ClkW x.c) : Cl Try.prog 58 #[.agg (recV x a cap).toArray] w (fun v w' => v = .bool (frMay x) ∧ Chg No w w') := by
  refine f_enter (args := [_]) Try.func58 rfl rfl ?_
  have mm := Mem.nil No w
  refine c_sreg rfl ?_
  refine so (o_bxa mm rfl fun b2 w2 mm => ?_)
  refine s1 (r_asb rfl) ?_
  refine wn ?_
  refine c_sreg rfl ?_
  refine s1 (r_fa rfl) ?_
  refine s1 (r_ld rfl (mm.b 0 rfl) rfl) ?_
  refine so (o_c1 rfl (c_has x.kind _) ?_)
  rintro _ w3 ⟨rfl, hc⟩
  have mm := mm.frame hc
  refine s1 (r_asi rfl) ?_
  refine wn ?_
  refine c_seq ?_
  refine c_sreg rfl ?_
  refine s1 (r_mvi rfl) ?_
  refine s1 (r_eq rfl rfl) ?_
  refine s1 (r_mvb rfl) ?_
  refine sF rfl rfl (fun h => r_fa rfl) ?_
  refine sF rfl rfl (fun h => r_ld (sel_t h :) (mm.b 0 rfl) rfl) ?_
  refine sF rfl rfl (fun h => r_lt (sel_t h :) rfl) ?_
  refine s1 (r_or rfl rfl) ?_
  refine s1 (r_mvb rfl) ?_
  refine sF rfl rfl (fun h => r_fa rfl) ?_
  refine sF rfl rfl (fun h => r_ld (sel_t h :) (mm.b 0 rfl) rfl) ?_
  refine sF rfl rfl (fun h => r_ge (sel_t h :) rfl) ?_
  refine s1 (r_or rfl rfl) ?_
  refine s1 (r_mvb rfl) ?_
  refine sF rfl rfl (fun h => r_mvi rfl) ?_
  refine sF rfl rfl (fun h => r_ne (sel_t h :) rfl) ?_
  refine sF rfl rfl (fun h => r_mvb (sel_t h :)) ?_
  refine sTs rfl rfl (fun h => r_fa rfl) ?_
  refine sTs rfl rfl (fun h => r_ld (sel_t h :) (mm.b 0 rfl) rfl) ?_
  refine sTs rfl rfl (fun h => r_len (sel_t h :)) ?_
  refine sTs rfl rfl (fun h => r_gt (sel_t h :) rfl) ?_
  refine sF rfl rfl (fun h => r_and (sel_t h :) (sel_and h :)) ?_
  refine s1 (r_or rfl rfl) ?_
  refine s1 (r_mvb rfl) ?_
  refine sF rfl rfl (fun h => r_mvi rfl) ?_
  refine sF rfl rfl (fun h => r_ne (sel_t h :) rfl) ?_
  refine sF rfl rfl (fun h => r_mvb (sel_t h :)) ?_
  refine sTs rfl rfl (fun h => r_fa rfl) ?_
  refine sTs rfl rfl (fun h => r_ld (sel_t h :) (mm.b 0 rfl) rfl) ?_
  refine sTs rfl rfl (fun h => r_ne (sel_t h :) rfl) ?_
  refine sF rfl rfl (fun h => r_and (sel_t h :) (sel_and h :)) ?_
  refine s1 (r_or rfl rfl) ?_
  refine s1 (r_mvb rfl) ?_
  refine sF rfl rfl (fun h => r_mvi rfl) ?_
  refine sF rfl rfl (fun h => r_ne (sel_t h :) rfl) ?_
  refine sF rfl rfl (fun h => r_mvb (sel_t h :)) ?_
  refine sTs rfl rfl (fun h => r_fa rfl) ?_
  refine sTs rfl rfl (fun h => r_lda (sel_t h :) (mm.b 0 rfl) rfl) ?_
  refine sTs rfl rfl (fun h => r_bd bN rfl) ?_
  refine sTs rfl rfl (fun h => r_nea clk_guard (clk_eq _ _ hw clk0_w) (sel_t h :) (sel_t h :)) ?_
  refine sF rfl rfl (fun h => r_and (sel_t h :) (sel_and h :)) ?_
  refine s1 (r_or rfl rfl) ?_
  refine wn ?_
  refine c_cond rfl (fun h => ?_) (fun h => (c_skip (t_n ?_)))
  · refine c_sreg rfl ?_
    refine s1 (r_asb rfl) ?_
    refine wn ?_
    refine c_ret (ret1 rfl rfl ⟨congrArg Value.bool (?_ : false = frMay x), mm.chg⟩)
    have h : mayFA x = true := h
    rw [frMay_abc, h]; rfl
  have hA : mayFA x = false := h
  clear h
  refine c_seq ?_
  refine c_sreg rfl ?_
  refine s1 (r_fa rfl) ?_
  refine s1 (r_ld rfl (mm.b 0 rfl) rfl) ?_
  refine s1 (r_eq rfl rfl) ?_
  refine s1 (r_mvb rfl) ?_
  refine sT rfl rfl (fun h => r_fa rfl) ?_
  refine sT rfl rfl (fun h => r_ld (sel_t h :) (mm.b 0 rfl) rfl) ?_
  refine sT rfl rfl (fun h => r_len (sel_t h :)) ?_
  refine sT rfl rfl (fun h => r_eq (sel_t h :) rfl) ?_
  refine s1 (r_and rfl rfl) ?_
  refine s1 (r_mvb rfl) ?_
  refine sF rfl rfl (fun h => r_fa rfl) ?_
  refine sF rfl rfl (fun h => r_ld (sel_t h :) (mm.b 0 rfl) rfl) ?_
  refine sF rfl rfl (fun h => r_len (sel_t h :)) ?_
  refine sF rfl rfl (fun h => r_gt (sel_t h :) rfl) ?_
  refine s1 (r_or rfl rfl) ?_
  refine s1 (r_mvb rfl) ?_
  refine sF rfl rfl (fun h => r_fa rfl) ?_
  refine sF rfl rfl (fun h => r_ld (sel_t h :) (mm.b 0 rfl) rfl) ?_
  refine sFw (I := Sof mm) rfl rfl mm (fun h => o_c1 (sel_t h :) (c_fFits x.upto _) (fun _ _ hh => ⟨hh.1, mm.frame hh.2⟩)) (fun w4 mm => ?_)
  refine sF rfl rfl (fun h => r_not (sel_t h :)) ?_
  refine s1 (r_or rfl rfl) ?_
  refine wn ?_
  refine c_cond rfl (fun h => ?_) (fun h => (c_skip (t_n ?_)))
  · refine c_sreg rfl ?_
    refine s1 (r_asb rfl) ?_
    refine wn ?_
    refine c_ret (ret1 rfl rfl ⟨congrArg Value.bool (?_ : false = frMay x), mm.chg⟩)
    have h : mayFB x = true := h
    rw [frMay_abc, h, hA]; rfl
  have hB : mayFB x = false := h
  clear h
  have hlen : x.es.length ≤ 20 := by
    unfold mayFB at hB
    simp at hB
    omega
  have mm : Mem w No _ [bk b2 (recV x a cap) 47] := mm.pk [0] (by decide)
  refine c_seq ?_
  refine c_sreg rfl ?_
  refine s1 (r_fa rfl) ?_
  refine s1 (r_lda rfl (mm.b 0 rfl) rfl) ?_
  refine s1 (r_mvi rfl) ?_
  refine wn ?_
  refine c_block ?_
  refine c_loop (fun k e w' => ∃ i, k + i = 5 ∧ e 1 = .pointer (some ⟨b2, 0, none⟩) ∧ e 74 = .agg (clkC x.c).toArray ∧ e 75 = .int .i64 (i : Nat) ∧ Mem w No w' [bk b2 (recV x a cap) 47] ∧ ∀ j, j < i → inEv (x.c.get j) = true) 5 ?_ ?_
  · exact ⟨0, rfl, rfl, rfl, rfl, mm, fun j hj => absurd hj (by omega)⟩
  clear mm
  rintro k e w9 ⟨i, hki, h1, h74, h75, mm, hall⟩
  refine c_sreg rfl ?_
  refine s1 (r_lt h75 rfl) ?_
  refine wn ?_
  refine c_seq ?_
  refine c_cond rfl (fun h => (c_skip (t_n ?_))) (fun h => (c_exit (t_x (t_x (b_x (t_n ?_))))))
  · have hi : i < 5 := by simp at h; omega
    clear h
    refine c_seq ?_
    refine c_block ?_
    refine c_sreg rfl ?_
    refine s1 (r_ixv h74 h75 (by omega) (by omega) (nth_clk x.c _ (by omega))) ?_
    refine s1 (r_asi rfl) ?_
    refine wn ?_
    refine c_sreg rfl ?_
    refine s1 (r_mvi rfl) ?_
    refine so (o_c1 rfl (c_fFits _ _) ?_)
    rintro _ w5 ⟨rfl, hc⟩
    have mm := mm.frame hc
    refine s1 (r_not rfl) ?_
    refine wn ?_
    refine c_cond rfl (fun h => ?_) (fun h => (c_skip (b_n (t_n ?_))))
    · refine c_sreg rfl ?_
      refine s1 (r_asb rfl) ?_
      refine wn ?_
      refine c_ret (ret1 rfl rfl ⟨congrArg Value.bool (?_ : false = frMay x), mm.chg⟩)
      have h9 : x.c.all inEv = false := by
        cases hq : x.c.all inEv with
        | false => rfl
        | true =>
          have := (Clk.all_iff _ _).1 hq i hi
          simp at h
          rw [this] at h; cases h
      rw [frMay_abc, h9, Bool.and_false]; rfl
    refine c_region rfl ?_
    refine s1 (r_add h75 rfl (wi (by omega) (by omega))) ?_
    refine s1 (r_mvi rfl) ?_
    refine wn (t_n ?_)
    refine ⟨k - 1, by omega, i + 1, by omega, h1, h74, rfl, mm, ?_⟩
    intro j hj
    rcases Nat.lt_or_ge j i with hlt | hge
    · exact hall j hlt
    · obtain rfl : j = i := by omega
      simpa using h
  have hi : i = 5 := by simp at h; omega
  subst hi
  clear h
  have hC : x.c.all inEv = true := (Clk.all_iff _ _).2 hall
  refine c_seq ?_
  refine c_sreg rfl ?_
  refine s1 (r_fa h1) ?_
  refine s1 (r_ld rfl (mm.b 0 rfl) rfl) ?_
  refine s1 (r_len rfl) ?_
  refine s1 (r_mvi rfl) ?_
  refine wn ?_
  refine c_block ?_
  refine c_loop (fun k e w' => ∃ i, k + i = x.es.length ∧ e 1 = .pointer (some ⟨b2, 0, none⟩) ∧ e 83 = .slice a x.es.length cap ∧ e 84 = .int .i64 (x.es.length : Nat) ∧ e 85 = .int .i64 (i : Nat) ∧ Mem w No w' [bk b2 (recV x a cap) 47] ∧ ∀ j, (h : j < x.es.length) → j < i → (decide (evMay x.es[j] = 0) && (decide (x.kind ≠ 1) || decide (x.es[j].r = x.r))) = true) x.es.length ?_ ?_
  · exact ⟨0, rfl, h1, rfl, rfl, rfl, mm, fun j _ hj => absurd hj (by omega)⟩
  clear mm
  rintro k e w9 ⟨i, hki, h1, h83, h84, h85, mm, hall⟩
  refine c_sreg rfl ?_
  refine s1 (r_lt h85 h84) ?_
  refine wn ?_
  refine c_seq ?_
  refine c_cond rfl (fun h => (c_skip (t_n ?_))) (fun h => (c_exit (t_x (t_x (b_x (t_n ?_))))))
  · have hi : i < x.es.length := by simp at h; omega
    clear h
    refine c_seq ?_
    refine c_block ?_
    refine c_sreg rfl ?_
    refine s1 (r_ix h83 h85 (by omega) (by omega) (evs_some H hi)) ?_
    refine s1 (r_ldce rfl (mm.ro H) (seg_evs x.es i hi) (evs_le x.es i hi) (by decide)) ?_
    refine so (o_al mm fun b6 w6 mm => ?_)
    refine ss (o_sta mm 1 rfl rfl rfl rfl rfl (Nat.le_of_ble_eq_true rfl) fun w7 mm => ?_)
    refine wn ?_
    refine c_sreg rfl ?_
    refine s1 (r_lda rfl (mm.b 1 rfl) rfl) ?_
    refine so (o_c1 rfl (c_may _ _) ?_)
    rintro _ w8 ⟨rfl, hc⟩
    have mm := mm.frame hc
    refine s1 (r_ne rfl rfl) ?_
    refine s1 (r_mvb rfl) ?_
    refine sF rfl rfl (fun h => r_fa h1) ?_
    refine sF rfl rfl (fun h => r_ld (sel_t h :) (mm.b 0 rfl) rfl) ?_
    refine sF rfl rfl (fun h => r_eq (sel_t h :) rfl) ?_
    refine sF rfl rfl (fun h => r_mvb (sel_t h :)) ?_
    refine sTs rfl rfl (fun h => r_fa rfl) ?_
    refine sTs rfl rfl (fun h => r_ld (sel_t h :) (mm.b 1 rfl) rfl) ?_
    refine sTs rfl rfl (fun h => r_fa h1) ?_
    refine sTs rfl rfl (fun h => r_ld (sel_t h :) (mm.b 0 rfl) rfl) ?_
    refine sTs rfl rfl (fun h => r_ne (sel_t h :) (sel_t h :)) ?_
    refine sF rfl rfl (fun h => r_and (sel_t h :) (sel_and h :)) ?_
    refine s1 (r_or rfl rfl) ?_
    refine wn ?_
    refine c_cond rfl (fun h => ?_) (fun h => (c_skip (b_n (t_n ?_))))
    · refine c_sreg rfl ?_
      refine s1 (r_asb rfl) ?_
      refine wn ?_
      refine c_ret (ret1 rfl rfl ⟨congrArg Value.bool (?_ : false = frMay x), mm.chg⟩)
      have h9 : x.es.all (fun y => decide (evMay y = 0) && (decide (x.kind ≠ 1) || decide (y.r = x.r))) = false := by
        cases hq : x.es.all (fun y => decide (evMay y = 0) && (decide (x.kind ≠ 1) || decide (y.r = x.r))) with
        | false => rfl
        | true =>
          have := List.all_eq_true.1 hq x.es[i] (List.getElem_mem hi)
          simp only [Bool.and_eq_true, Bool.or_eq_true, decide_eq_true_eq] at this
          simp at h
          rcases this.2 with h8 | h8
          · rcases h with h | h
            · exact absurd this.1 h
            · exact absurd h.1 h8
          · rcases h with h | h
            · exact absurd this.1 h
            · exact absurd h8 h.2
      rw [frMay_abc, h9, Bool.and_false]
    refine c_region rfl ?_
    refine s1 (r_add h85 rfl (wi (by omega) (by omega))) ?_
    refine s1 (r_mvi rfl) ?_
    refine wn (t_n ?_)
    refine ⟨k - 1, by omega, i + 1, by omega, h1, h83, h84, rfl, mm.pk [0] (by decide), ?_⟩
    intro j hj hji
    rcases Nat.lt_or_ge j i with hlt | hge
    · exact hall j hj hlt
    · obtain rfl : j = i := by omega
      simp at h
      simp only [Bool.and_eq_true, Bool.or_eq_true, decide_eq_true_eq]
      refine ⟨h.1, ?_⟩
      by_cases hk : x.kind = 1
      · exact .inr (h.2 hk)
      · exact .inl hk
  have hi : i = x.es.length := by simp at h; omega
  subst hi
  clear h
  refine c_sreg rfl ?_
  refine s1 (r_asb rfl) ?_
  refine wn ?_
  refine c_ret (ret1 rfl rfl ⟨congrArg Value.bool (?_ : true = frMay x), mm.chg⟩)
  have h9 : x.es.all (fun y => decide (evMay y = 0) && (decide (x.kind ≠ 1) || decide (y.r = x.r))) = true := by
    rw [List.all_eq_true]
    intro y hy
    obtain ⟨j, hj, rfl⟩ := List.mem_iff_getElem.1 hy
    exact hall j hj hj
  rw [frMay_abc, h9, hC, hA, hB]; rfl
end Go.Proofs.Ytgdbbaggkoillaa

