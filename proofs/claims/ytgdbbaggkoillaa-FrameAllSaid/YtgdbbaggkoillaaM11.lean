/- frame.has, fits, may: walks. -/
import Derived.Test.YtgdbbaggkoillaaM10
import Derived.Test.YtgdbbaggkoillaaM8
namespace Go.Proofs.Ytgdbbaggkoillaa
open K
set_option maxRecDepth 100000
set_option maxHeartbeats 4000000

def hasM : List MapEntry := [⟨.int .i64 1, .int .i64 1, 0⟩, ⟨.int .i64 2, .int .i64 2, 1⟩, ⟨.int .i64 3, .int .i64 3, 2⟩, ⟨.int .i64 4, .int .i64 1, 3⟩, ⟨.int .i64 5, .int .i64 3, 4⟩]
theorem hasM_find (k : Int) : ∃ r, Instr.findNow (.int .i64) (.int .i64 k) hasM 0 = some r ∧ lkV r (.int .i64 0) = Value.int .i64 (fHas k) := by
  by_cases h1 : k = 1
  · subst h1; exact ⟨_, rfl, rfl⟩
  by_cases h2 : k = 2
  · subst h2; exact ⟨_, rfl, rfl⟩
  by_cases h3 : k = 3
  · subst h3; exact ⟨_, rfl, rfl⟩
  by_cases h4 : k = 4
  · subst h4; exact ⟨_, rfl, rfl⟩
  by_cases h5 : k = 5
  · subst h5; exact ⟨_, rfl, rfl⟩
  have g : ∀ n : Int, k ≠ n → (k == n) = false := fun n h => by simp [h]
  refine ⟨none, ?_, ?_⟩
  · simp [Instr.findNow, Instr.sameNow, hasM, g 1 h1, g 2 h2, g 3 h3, g 4 h4, g 5 h5]
  · show Value.int .i64 0 = _
    unfold fHas
    rw [if_neg h1, if_neg h2, if_neg h3, if_neg h4, if_neg h5]
theorem c_has (k : Int) (w : World) : Cl Try.prog 59 #[.int .i64 k] w (fun v w' => v = .int .i64 (fHas k) ∧ Chg No w w') := by
  obtain ⟨r, hr1, hr2⟩ := hasM_find k
  refine f_enter (args := [_]) Try.func59 rfl rfl ?_
  have mm := Mem.nil No w
  refine c_sreg rfl ?_
  refine s1 (r_asi rfl) ?_
  refine wn ?_
  refine c_sreg rfl ?_
  refine so (o_mkm mm fun b2 w2 mm => ?_)
  refine ss (o_insi mm 0 rfl Try.underlying108 Try.underlying3 rfl rfl rfl rfl fun w3 mm => ?_)
  refine ss (o_insi mm 0 rfl Try.underlying108 Try.underlying3 rfl rfl rfl rfl fun w4 mm => ?_)
  refine ss (o_insi mm 0 rfl Try.underlying108 Try.underlying3 rfl rfl rfl rfl fun w5 mm => ?_)
  refine ss (o_insi mm 0 rfl Try.underlying108 Try.underlying3 rfl rfl rfl rfl fun w6 mm => ?_)
  refine ss (o_insi mm 0 rfl Try.underlying108 Try.underlying3 rfl rfl rfl rfl fun w7 mm => ?_)
  refine s1 (r_mvm rfl) ?_
  refine s1 (r_mvi rfl) ?_
  refine s1 (r_lki mm 0 rfl Try.underlying108 Try.underlying3 (by kernel_rfl) rfl rfl hr1 hr2) ?_
  refine s1 (r_asi rfl) ?_
  refine wn ?_
  exact c_ret (ret1 rfl rfl ⟨rfl, mm.chg⟩)
theorem c_fFits (n : Int) (w : World) : Cl Try.prog 80 #[.int .i64 n] w (fun v w' => v = .bool (inEv n) ∧ Chg No w w') := by
  refine f_enter (args := [_]) Try.func80 rfl rfl ?_
  have mm := Mem.nil No w
  refine c_sreg rfl ?_
  refine s1 (r_asb rfl) ?_
  refine wn ?_
  refine c_sreg rfl ?_
  refine s1 (r_mvi rfl) ?_
  refine s1 (r_ge rfl rfl) ?_
  refine s1 (r_mvb rfl) ?_
  refine sT rfl rfl (fun h => r_mvi rfl) ?_
  refine sT rfl rfl (fun h => r_le (sel_t h :) rfl) ?_
  refine s1 (r_and rfl rfl) ?_
  refine s1 (r_asb rfl) ?_
  refine wn ?_
  exact c_ret (ret1 rfl rfl ⟨rfl, mm.chg⟩)

theorem c_frMay (x : Rec) {a : Option Addr} {cap : Nat} (w : World) (H : Cells w a (evsC x.es)) (hw : ClkW x.c) : Cl Try.prog 58 #[.agg (recV x a cap).toArray] w (fun v w' => v = .bool (frMay x) ∧ Chg No w w') := by
  refine f_enter (args := [_]) Try.func58 rfl rfl ?_
  have mm := Mem.nil No w
  refine c_sreg rfl ?_
  refine so (o_bxa mm rfl fun b2 w2 mm => ?_)
  refine s1 (r_asb rfl) ?_
  refine wn ?_
  refine c_sreg rfl ?_
  refine s1 (r_fa rfl) ?_
  refine s1 (r_ld rfl (mm.b 0 rfl) rfl) ?_
  refine so (o_c1 rfl (c_has x.kind _) ?_)
  rintro _ w3 ⟨rfl, hc⟩
  have mm := mm.frame hc
  refine s1 (r_asi rfl) ?_
  refine wn ?_
  refine c_seq ?_
  refine c_sreg rfl ?_
  refine s1 (r_mvi rfl) ?_
  refine s1 (r_eq rfl rfl) ?_
  refine s1 (r_mvb rfl) ?_
  refine sF rfl rfl (fun h => r_fa rfl) ?_
  refine sF rfl rfl (fun h => r_ld (sel_t h :) (mm.b 0 rfl) rfl) ?_
  refine sF rfl rfl (fun h => r_lt (sel_t h :) rfl) ?_
  refine s1 (r_or rfl rfl) ?_
  refine s1 (r_mvb rfl) ?_
  refine sF rfl rfl (fun h => r_fa rfl) ?_
  refine sF rfl rfl (fun h => r_ld (sel_t h :) (mm.b 0 rfl) rfl) ?_
  refine sF rfl rfl (fun h => r_ge (sel_t h :) rfl) ?_
  refine s1 (r_or rfl rfl) ?_
  refine s1 (r_mvb rfl) ?_
  refine sF rfl rfl (fun h => r_mvi rfl) ?_
  refine sF rfl rfl (fun h => r_ne (sel_t h :) rfl) ?_
  refine sF rfl rfl (fun h => r_mvb (sel_t h :)) ?_
  refine sTs rfl rfl (fun h => r_fa rfl) ?_
  refine sTs rfl rfl (fun h => r_ld (sel_t h :) (mm.b 0 rfl) rfl) ?_
  refine sTs rfl rfl (fun h => r_len (sel_t h :)) ?_
  refine sTs rfl rfl (fun h => r_gt (sel_t h :) rfl) ?_
  refine sF rfl rfl (fun h => r_and (sel_t h :) (sel_and h :)) ?_
  refine s1 (r_or rfl rfl) ?_
  refine s1 (r_mvb rfl) ?_
  refine sF rfl rfl (fun h => r_mvi rfl) ?_
  refine sF rfl rfl (fun h => r_ne (sel_t h :) rfl) ?_
  refine sF rfl rfl (fun h => r_mvb (sel_t h :)) ?_
  refine sTs rfl rfl (fun h => r_fa rfl) ?_
  refine sTs rfl rfl (fun h => r_ld (sel_t h :) (mm.b 0 rfl) rfl) ?_
  refine sTs rfl rfl (fun h => r_ne (sel_t h :) rfl) ?_
  refine sF rfl rfl (fun h => r_and (sel_t h :) (sel_and h :)) ?_
  refine s1 (r_or rfl rfl) ?_
  refine s1 (r_mvb rfl) ?_
  refine sF rfl rfl (fun h => r_mvi rfl) ?_
  refine sF rfl rfl (fun h => r_ne (sel_t h :) rfl) ?_
  refine sF rfl rfl (fun h => r_mvb (sel_t h :)) ?_
  refine sTs rfl rfl (fun h => r_fa rfl) ?_
  refine sTs rfl rfl (fun h => r_lda (sel_t h :) (mm.b 0 rfl) rfl) ?_
  refine sTs rfl rfl (fun h => r_bd bN rfl) ?_
  refine sTs rfl rfl (fun h => r_nea clk_guard (clk_eq _ _ hw clk0_w) (sel_t h :) (sel_t h :)) ?_
  refine sF rfl rfl (fun h => r_and (sel_t h :) (sel_and h :)) ?_
  refine s1 (r_or rfl rfl) ?_
  refine wn ?_
  refine c_cond rfl (fun h => ?_) (fun h => (c_skip (t_n ?_)))
  · refine c_sreg rfl ?_
    refine s1 (r_asb rfl) ?_
    refine wn ?_
    refine c_ret (ret1 rfl rfl ⟨congrArg Value.bool (?_ : false = frMay x), mm.chg⟩)
    have h : mayFA x = true := h
    rw [frMay_abc, h]; rfl
  have hA : mayFA x = false := h
  clear h
  refine c_seq ?_
  refine c_sreg rfl ?_
  refine s1 (r_fa rfl) ?_
  refine s1 (r_ld rfl (mm.b 0 rfl) rfl) ?_
  refine s1 (r_eq rfl rfl) ?_
  refine s1 (r_mvb rfl) ?_
  refine sT rfl rfl (fun h => r_fa rfl) ?_
  refine sT rfl rfl (fun h => r_ld (sel_t h :) (mm.b 0 rfl) rfl) ?_
  refine sT rfl rfl (fun h => r_len (sel_t h :)) ?_
  refine sT rfl rfl (fun h => r_eq (sel_t h :) rfl) ?_
  refine s1 (r_and rfl rfl) ?_
  refine s1 (r_mvb rfl) ?_
  refine sF rfl rfl (fun h => r_fa rfl) ?_
  refine sF rfl rfl (fun h => r_ld (sel_t h :) (mm.b 0 rfl) rfl) ?_
  refine sF rfl rfl (fun h => r_len (sel_t h :)) ?_
  refine sF rfl rfl (fun h => r_gt (sel_t h :) rfl) ?_
  refine s1 (r_or rfl rfl) ?_
  refine s1 (r_mvb rfl) ?_
  refine sF rfl rfl (fun h => r_fa rfl) ?_
  refine sF rfl rfl (fun h => r_ld (sel_t h :) (mm.b 0 rfl) rfl) ?_
  refine sFw (I := Sof mm) rfl rfl mm (fun h => o_c1 (sel_t h :) (c_fFits x.upto _) (fun _ _ hh => ⟨hh.1, mm.frame hh.2⟩)) (fun w4 mm => ?_)
  refine sF rfl rfl (fun h => r_not (sel_t h :)) ?_
  refine s1 (r_or rfl rfl) ?_
  refine wn ?_
  refine c_cond rfl (fun h => ?_) (fun h => (c_skip (t_n ?_)))
  · refine c_sreg rfl ?_
    refine s1 (r_asb rfl) ?_
    refine wn ?_
    refine c_ret (ret1 rfl rfl ⟨congrArg Value.bool (?_ : false = frMay x), mm.chg⟩)
    have h : mayFB x = true := h
    rw [frMay_abc, h, hA]; rfl
  have hB : mayFB x = false := h
  clear h
  have hlen : x.es.length ≤ 20 := by
    unfold mayFB at hB
    simp at hB
    omega
  have mm : Mem w No _ [bk b2 (recV x a cap) 47] := mm.pk [0] (by decide)
  refine c_seq ?_
  refine c_sreg rfl ?_
  refine s1 (r_fa rfl) ?_
  refine s1 (r_lda rfl (mm.b 0 rfl) rfl) ?_
  refine s1 (r_mvi rfl) ?_
  refine wn ?_
  refine c_block ?_
  refine c_loop (fun k e w' => ∃ i, k + i = 5 ∧ e 1 = .pointer (some ⟨b2, 0, none⟩) ∧ e 74 = .agg (clkC x.c).toArray ∧ e 75 = .int .i64 (i : Nat) ∧ Mem w No w' [bk b2 (recV x a cap) 47] ∧ ∀ j, j < i → inEv (x.c.get j) = true) 5 ?_ ?_
  · exact ⟨0, rfl, rfl, rfl, rfl, mm, fun j hj => absurd hj (by omega)⟩
  clear mm
  rintro k e w9 ⟨i, hki, h1, h74, h75, mm, hall⟩
  refine c_sreg rfl ?_
  refine s1 (r_lt h75 rfl) ?_
  refine wn ?_
  refine c_seq ?_
  refine c_cond rfl (fun h => (c_skip (t_n ?_))) (fun h => (c_exit (t_x (t_x (b_x (t_n ?_))))))
  · have hi : i < 5 := by simp at h; omega
    clear h
    refine c_seq ?_
    refine c_block ?_
    refine c_sreg rfl ?_
    refine s1 (r_ixv h74 h75 (by omega) (by omega) (nth_clk x.c _ (by omega))) ?_
    refine s1 (r_asi rfl) ?_
    refine wn ?_
    refine c_sreg rfl ?_
    refine s1 (r_mvi rfl) ?_
    refine so (o_c1 rfl (c_fFits _ _) ?_)
    rintro _ w5 ⟨rfl, hc⟩
    have mm := mm.frame hc
    refine s1 (r_not rfl) ?_
    refine wn ?_
    refine c_cond rfl (fun h => ?_) (fun h => (c_skip (b_n (t_n ?_))))
    · refine c_sreg rfl ?_
      refine s1 (r_asb rfl) ?_
      refine wn ?_
      refine c_ret (ret1 rfl rfl ⟨congrArg Value.bool (?_ : false = frMay x), mm.chg⟩)
      have h9 : x.c.all inEv = false := by
        cases hq : x.c.all inEv with
        | false => rfl
        | true =>
          have := (Clk.all_iff _ _).1 hq i hi
          simp at h
          rw [this] at h; cases h
      rw [frMay_abc, h9, Bool.and_false]; rfl
    refine c_region rfl ?_
    refine s1 (r_add h75 rfl (wi (by omega) (by omega))) ?_
    refine s1 (r_mvi rfl) ?_
    refine wn (t_n ?_)
    refine ⟨k - 1, by omega, i + 1, by omega, h1, h74, rfl, mm, ?_⟩
    intro j hj
    rcases Nat.lt_or_ge j i with hlt | hge
    · exact hall j hlt
    · obtain rfl : j = i := by omega
      simpa using h
  have hi : i = 5 := by simp at h; omega
  subst hi
  clear h
  have hC : x.c.all inEv = true := (Clk.all_iff _ _).2 hall
  refine c_seq ?_
  refine c_sreg rfl ?_
  refine s1 (r_fa h1) ?_
  refine s1 (r_ld rfl (mm.b 0 rfl) rfl) ?_
  refine s1 (r_len rfl) ?_
  refine s1 (r_mvi rfl) ?_
  refine wn ?_
  refine c_block ?_
  refine c_loop (fun k e w' => ∃ i, k + i = x.es.length ∧ e 1 = .pointer (some ⟨b2, 0, none⟩) ∧ e 83 = .slice a x.es.length cap ∧ e 84 = .int .i64 (x.es.length : Nat) ∧ e 85 = .int .i64 (i : Nat) ∧ Mem w No w' [bk b2 (recV x a cap) 47] ∧ ∀ j, (h : j < x.es.length) → j < i → (decide (evMay x.es[j] = 0) && (decide (x.kind ≠ 1) || decide (x.es[j].r = x.r))) = true) x.es.length ?_ ?_
  · exact ⟨0, rfl, h1, rfl, rfl, rfl, mm, fun j _ hj => absurd hj (by omega)⟩
  clear mm
  rintro k e w9 ⟨i, hki, h1, h83, h84, h85, mm, hall⟩
  refine c_sreg rfl ?_
  refine s1 (r_lt h85 h84) ?_
  refine wn ?_
  refine c_seq ?_
  refine c_cond rfl (fun h => (c_skip (t_n ?_))) (fun h => (c_exit (t_x (t_x (b_x (t_n ?_))))))
  · have hi : i < x.es.length := by simp at h; omega
    clear h
    refine c_seq ?_
    refine c_block ?_
    refine c_sreg rfl ?_
    refine s1 (r_ix h83 h85 (by omega) (by omega) (evs_some H hi)) ?_
    refine s1 (r_ldce rfl (mm.ro H) (seg_evs x.es i hi) (evs_le x.es i hi) (by decide)) ?_
    refine so (o_al mm fun b6 w6 mm => ?_)
    refine ss (o_sta mm 1 rfl rfl rfl rfl rfl (Nat.le_of_ble_eq_true rfl) fun w7 mm => ?_)
    refine wn ?_
    refine c_sreg rfl ?_
    refine s1 (r_lda rfl (mm.b 1 rfl) rfl) ?_
    refine so (o_c1 rfl (c_may _ _) ?_)
    rintro _ w8 ⟨rfl, hc⟩
    have mm := mm.frame hc
    refine s1 (r_ne rfl rfl) ?_
    refine s1 (r_mvb rfl) ?_
    refine sF rfl rfl (fun h => r_fa h1) ?_
    refine sF rfl rfl (fun h => r_ld (sel_t h :) (mm.b 0 rfl) rfl) ?_
    refine sF rfl rfl (fun h => r_eq (sel_t h :) rfl) ?_
    refine sF rfl rfl (fun h => r_mvb (sel_t h :)) ?_
    refine sTs rfl rfl (fun h => r_fa rfl) ?_
    refine sTs rfl rfl (fun h => r_ld (sel_t h :) (mm.b 1 rfl) rfl) ?_
    refine sTs rfl rfl (fun h => r_fa h1) ?_
    refine sTs rfl rfl (fun h => r_ld (sel_t h :) (mm.b 0 rfl) rfl) ?_
    refine sTs rfl rfl (fun h => r_ne (sel_t h :) (sel_t h :)) ?_
    refine sF rfl rfl (fun h => r_and (sel_t h :) (sel_and h :)) ?_
    refine s1 (r_or rfl rfl) ?_
    refine wn ?_
    refine c_cond rfl (fun h => ?_) (fun h => (c_skip (b_n (t_n ?_))))
    · refine c_sreg rfl ?_
      refine s1 (r_asb rfl) ?_
      refine wn ?_
      refine c_ret (ret1 rfl rfl ⟨congrArg Value.bool (?_ : false = frMay x), mm.chg⟩)
      have h9 : x.es.all (fun y => decide (evMay y = 0) && (decide (x.kind ≠ 1) || decide (y.r = x.r))) = false := by
        cases hq : x.es.all (fun y => decide (evMay y = 0) && (decide (x.kind ≠ 1) || decide (y.r = x.r))) with
        | false => rfl
        | true =>
          have := List.all_eq_true.1 hq x.es[i] (List.getElem_mem hi)
          simp only [Bool.and_eq_true, Bool.or_eq_true, decide_eq_true_eq] at this
          simp at h
          rcases this.2 with h8 | h8
          · rcases h with h | h
            · exact absurd this.1 h
            · exact absurd h.1 h8
          · rcases h with h | h
            · exact absurd this.1 h
            · exact absurd h8 h.2
      rw [frMay_abc, h9, Bool.and_false]
    refine c_region rfl ?_
    refine s1 (r_add h85 rfl (wi (by omega) (by omega))) ?_
    refine s1 (r_mvi rfl) ?_
    refine wn (t_n ?_)
    refine ⟨k - 1, by omega, i + 1, by omega, h1, h83, h84, rfl, mm.pk [0] (by decide), ?_⟩
    intro j hj hji
    rcases Nat.lt_or_ge j i with hlt | hge
    · exact hall j hj hlt
    · obtain rfl : j = i := by omega
      simp at h
      simp only [Bool.and_eq_true, Bool.or_eq_true, decide_eq_true_eq]
      refine ⟨h.1, ?_⟩
      by_cases hk : x.kind = 1
      · exact .inr (h.2 hk)
      · exact .inl hk
  have hi : i = x.es.length := by simp at h; omega
  subst hi
  clear h
  refine c_sreg rfl ?_
  refine s1 (r_asb rfl) ?_
  refine wn ?_
  refine c_ret (ret1 rfl rfl ⟨congrArg Value.bool (?_ : true = frMay x), mm.chg⟩)
  have h9 : x.es.all (fun y => decide (evMay y = 0) && (decide (x.kind ≠ 1) || decide (y.r = x.r))) = true := by
    rw [List.all_eq_true]
    intro y hy
    obtain ⟨j, hj, rfl⟩ := List.mem_iff_getElem.1 hy
    exact hall j hj hj
  rw [frMay_abc, h9, hC, hA, hB]; rfl
end Go.Proofs.Ytgdbbaggkoillaa
/- record.Put: the walk. -/
namespace Go.Proofs.Ytgdbbaggkoillaa
open K
set_option maxRecDepth 100000
set_option maxHeartbeats 4000000

theorem c_rPut1 {w0 w : World} {F0 : Nat → Prop} {L : List It} (mm0 : Mem w0 F0 w L) (k k' : Nat) (x : Int) (hx : 0 ≤ x) (hx' : x ≤ 9223372036854775807) {bo c : Nat} {a : Option Addr} {pre : List UInt8}
    (hk : nth L k = some (bk bo [.slice a pre.length c] 28)) (hk' : nth L k' = some (own 5 1 a pre.length c (u8s pre))) (hkk : k ≠ k') (hlen : pre.length ≤ 1000000) :
    Cl Try.prog 56 #[.int .i64 x, .pointer (some ⟨bo, 0, none⟩)] w (fun v w' => v = .tuple #[] ∧ ∃ a' c', Mem w0 F0 w' (setN (setN L k (bk bo [.slice a' (pre ++ vput x.toNat).length c'] 28)) k' (own 5 1 a' (pre ++ vput x.toNat).length c' (u8s (pre ++ vput x.toNat))))) := by
  have mm := mm0.pick2 k k' hk hk' hkk
  have hl := vput_len10 x.toNat (by omega)
  refine f_enter (args := [_, _]) Try.func56 rfl rfl ?_
  refine c_draw mixed [(0, true), (1, true), (2, true), (3, false), (4, false), (5, false)] [true, true, true, true, false, false] (Sof mm) (by kernel_rfl) rfl rfl (by kernel_rfl) (fun w2 hc => ?_)
  have mm := mm.frame hc
  refine p1 rfl (fun w m => r_ld rfl (m.b 0 rfl) rfl) mm ?_
  refine p1 rfl (fun w m => r_mvi rfl) mm ?_
  refine p1 rfl (fun w m => r_cv rfl (wu64n hx hx')) mm ?_
  refine po rfl (o_c1 rfl (c_vput x.toNat (by omega) _) ?_)
  rintro _ w3 ⟨a3, c3, rfl, hc, hn⟩
  have mm := mm.new hc hn
  refine ⟨fun _ => mm.sub [0, 1] _ (by decide) rfl, ?_⟩
  refine po rfl (o_ap mm 1 rfl rfl rfl (src_own mm 2 rfl (ones_u8s _)) (by omega) (by unfold maxLen; omega) fun a4 c4 w4 mm => ⟨fun h => absurd rfl h, ?_⟩)
  refine ps rfl (o_st mm 0 rfl rfl rfl rfl rfl fun w5 mm => ⟨fun h => absurd rfl h, ?_⟩)
  refine pn (body_n ?_)
  have h2 := mm0.lift2 k k' hk hk' hkk (mm.sub [0, 1] _ (by decide) rfl)
  exact ret0 rfl ⟨rfl, _, _, by rw [List.length_append, u8s_append]; exact h2⟩
/-- Put's items: the record, the bytes, their variable, the kind's parts. -/
def rpL (x : Rec) (a : Option Addr) (cap b1 b4 b6 : Nat) (ao : Option Addr) (co : Nat) (pre : List UInt8) : List It :=
  [bk b1 (recV x a cap) 43, own 5 1 ao pre.length co (u8s pre), bk b4 [.slice ao pre.length co] 28, bk b6 [.bool (parts x.kind).1, .bool (parts x.kind).2.1, .bool (parts x.kind).2.2.1] 87]
theorem clkB_succ (c : Clk) (i : Nat) : clkB c (i + 1) = clkB c i ++ vput (c.get i).toNat := by
  unfold clkB
  rw [List.range_succ, List.flatMap_append]
  simp
theorem evsB_succ (l : List Ev) (i : Nat) (h : i < l.length) : evsB (l.take (i + 1)) = evsB (l.take i) ++ putE l[i] := by
  unfold evsB
  rw [List.take_succ_eq_append_getElem h, List.flatMap_append]
  simp
theorem evsB_len {l : List Ev} (h : ∀ y ∈ l, evMay y = 0) : (evsB l).length ≤ 44 * l.length := by
  induction l with
  | nil => exact Nat.le_refl _
  | cons x l ih =>
    have h1 := putE_le x (evMay_ok (h x (List.mem_cons_self ..)))
    have h2 := ih (fun y hy => h y (List.mem_cons_of_mem _ hy))
    have h3 : evsB (x :: l) = putE x ++ evsB l := List.flatMap_cons
    rw [h3, List.length_append, List.length_cons]
    omega
theorem clkB_len (c : Clk) (hc : ∀ i, i < 5 → 0 ≤ c.get i ∧ c.get i ≤ 1048576) : ∀ i, i ≤ 5 → (clkB c i).length ≤ 10 * i
  | 0, _ => Nat.le_refl _
  | i + 1, hi => by
    have h1 := clkB_len c hc i (by omega)
    have h2 := hc i (by omega)
    have h3 := vput_len10 (c.get i).toNat (by omega)
    rw [clkB_succ, List.length_append]
    omega
theorem c_rPut (x : Rec) {a : Option Addr} {cap : Nat} (w : World) (H : Cells w a (evsC x.es)) (hw : ClkW x.c) : Cl Try.prog 28 #[.agg (recV x a cap).toArray] w
    (fun v w' => ∃ a' c', v = .tuple #[.slice a' (recPut x).length c', .int .i64 (if recMay x then 0 else 1)] ∧ Chg No w w' ∧ New w w' (own 5 1 a' (recPut x).length c' (u8s (recPut x)))) := by
  refine f_enter (args := [_]) Try.func28 rfl rfl ?_
  have mm := Mem.nil No w
  refine c_sreg rfl ?_
  refine so (o_bxa mm rfl fun b2 w2 mm => ?_)
  refine s1 (r_ass rfl) ?_
  refine s1 (r_asi rfl) ?_
  refine wn ?_
  refine c_seq ?_
  refine c_sreg rfl ?_
  refine s1 (r_lda rfl (mm.b 0 rfl) rfl) ?_
  refine so (o_c1 rfl (c_recMay x _ (mm.ro H) hw) ?_)
  rintro _ w3 ⟨rfl, hc⟩
  have mm := mm.frame hc
  refine s1 (r_not rfl) ?_
  refine wn ?_
  refine c_cond rfl (fun h => ?_) (fun h => (c_skip (t_n ?_)))
  · have hz : recMay x = false := by simpa using h
    refine c_sreg rfl ?_
    refine s1 (r_ass rfl) ?_
    refine s1 (r_asi rfl) ?_
    refine wn ?_
    have e1 : recPut x = [] := by unfold recPut; rw [hz]; rfl
    rw [e1, hz]
    have mm := mm.nilrow (T := 5) (sz := 1)
    exact c_ret (ret2 rfl rfl rfl ⟨none, 0, rfl, mm.chg, mm.isNew 1 rfl⟩)
  have hz : recMay x = true := by simpa using h
  clear h
  have ok := recMay_ok hz
  have e1 : recPut x = putR x := by unfold recPut; rw [hz]; rfl
  rw [e1, hz]
  have hkin := parts_in ok.is
  refine c_sreg rfl ?_
  refine s1 (r_fa rfl) ?_
  refine s1 (r_ld rfl (mm.b 0 rfl) rfl) ?_
  refine s1 (r_cv rfl rfl) ?_
  refine s1 (r_fa rfl) ?_
  refine s1 (r_ld rfl (mm.b 0 rfl) rfl) ?_
  refine s1 (r_cv rfl rfl) ?_
  refine so (o_bi2 mm rfl rfl fun a4 c4 w4 mm => ?_)
  refine so (o_al mm fun b5 w5 mm => ?_)
  refine ss (o_st mm 2 rfl rfl rfl rfl rfl fun w6 mm => ?_)
  refine wn ?_
  rw [u8_int _ (by omega), u8_int _ ok.r0] at mm
  refine c_sreg rfl ?_
  refine s1 (r_fn1 rfl) ?_
  refine s1 (r_asf rfl) ?_
  refine wn ?_
  refine c_sreg rfl ?_
  refine s1 (r_fa rfl) ?_
  refine s1 (r_ld rfl (mm.b 0 rfl) rfl) ?_
  refine so (o_c1 rfl (c_parts x.kind _) ?_)
  rintro _ w7 ⟨rfl, hc⟩
  have mm := mm.frame hc
  refine s1 (r_mvu rfl) ?_
  refine s1 (r_extg rfl rfl) ?_
  refine s1 (r_extb rfl rfl) ?_
  refine so (o_al mm fun b8 w8 mm => ?_)
  refine ss (o_sta mm 3 rfl rfl rfl rfl rfl (Nat.le_of_ble_eq_true rfl) fun w9 mm => ?_)
  refine s1 (r_asb rfl) ?_
  refine wn ?_
  generalize hp0 : [UInt8.ofNat x.kind.toNat, UInt8.ofNat x.r.toNat] = p0 at *
  have hl0 : p0.length = 2 := by rw [← hp0]; rfl
  have hm0 : Mem w No _ (rpL x a cap b2 b5 b8 a4 c4 [UInt8.ofNat x.kind.toNat, UInt8.ofNat x.r.toNat]) := mm
  rw [hp0] at hm0
  clear mm
  have mm := hm0
  clear hm0
  have hu := vput_len10 x.upto.toNat (by have := ok.u1; omega)
  generalize hp1 : p0 ++ (if (parts x.kind).1 then vput x.upto.toNat else []) = p1
  have hl1 : p1.length ≤ 12 := by rw [← hp1, List.length_append, hl0]; split <;> first | omega | (simp; done) | (simp; omega)
  refine c_seq ?_
  refine c_sreg rfl ?_
  refine s1 (r_fa rfl) ?_
  refine s1 (r_ld rfl (mm.b 3 rfl) rfl) ?_
  refine wn ?_
  refine c_mid0 (fun e w' => ∃ ao co, e 1 = .pointer (some ⟨b2, 0, none⟩) ∧ e 4 = .pointer (some ⟨b5, 0, none⟩) ∧ e 5 = .func (.func 56) #[] #[.pointer (some ⟨b5, 0, none⟩)] ∧ e 6 = .pointer (some ⟨b8, 0, none⟩) ∧ Mem w No w' (rpL x a cap b2 b5 b8 ao co p1)) ?_ ?_
  · refine c_cond rfl (fun h => ?_) (fun h => (c_skip (t_n ?_)))
    · rw [if_pos h] at hp1
      refine c_region rfl ?_
      refine s1 (r_mvf rfl) ?_
      refine s1 (r_fa rfl) ?_
      refine s1 (r_ld rfl (mm.b 0 rfl) rfl) ?_
      refine so (o_f11 rfl rfl (c_rPut1 mm 2 1 x.upto ok.u0 (by have := ok.u1; omega) rfl rfl (by decide) (by omega)) ?_)
      rintro _ w10 ⟨rfl, a10, c10, mm⟩
      refine wn (t_n ?_)
      rw [hp1] at mm
      exact ⟨_, _, rfl, rfl, rfl, rfl, mm⟩
    · rw [h, if_neg (by decide), List.append_nil] at hp1
      subst hp1
      exact ⟨_, _, rfl, rfl, rfl, rfl, mm⟩
  clear mm hc
  rintro e w1 ⟨ao, co, h1, h4, h5, h6, mm⟩
  generalize hp2 : p1 ++ (if (parts x.kind).2.1 then clkB x.c 5 else []) = p2
  have hcl := clkB_len x.c ok.c 5 (Nat.le_refl _)
  have hl2 : p2.length ≤ 62 := by rw [← hp2, List.length_append]; split <;> first | omega | (simp; done) | (simp; omega)
  refine c_seq ?_
  refine c_sreg rfl ?_
  refine s1 (r_fa h6) ?_
  refine s1 (r_ld rfl (mm.b 3 rfl) rfl) ?_
  refine wn ?_
  refine c_mid0 (fun e w' => ∃ ao co, e 1 = .pointer (some ⟨b2, 0, none⟩) ∧ e 4 = .pointer (some ⟨b5, 0, none⟩) ∧ e 5 = .func (.func 56) #[] #[.pointer (some ⟨b5, 0, none⟩)] ∧ e 6 = .pointer (some ⟨b8, 0, none⟩) ∧ Mem w No w' (rpL x a cap b2 b5 b8 ao co p2)) ?_ ?_
  · refine c_cond rfl (fun h => ?_) (fun h => (c_skip (t_n ?_)))
    · rw [if_pos h] at hp2
      refine c_sreg rfl ?_
      refine s1 (r_fa h1) ?_
      refine s1 (r_lda rfl (mm.b 0 rfl) rfl) ?_
      refine s1 (r_mvi rfl) ?_
      refine wn ?_
      refine c_block ?_
      refine c_loop (fun k e w' => ∃ i ao co, k + i = 5 ∧ e 1 = .pointer (some ⟨b2, 0, none⟩) ∧ e 4 = .pointer (some ⟨b5, 0, none⟩) ∧ e 5 = .func (.func 56) #[] #[.pointer (some ⟨b5, 0, none⟩)] ∧ e 6 = .pointer (some ⟨b8, 0, none⟩) ∧ Mem w No w' (rpL x a cap b2 b5 b8 ao co (p1 ++ clkB x.c i)) ∧ e 41 = .agg (clkC x.c).toArray ∧ e 42 = .int .i64 (i : Nat)) 5 ?_ ?_
      · refine ⟨0, ao, co, rfl, h1, h4, h5, h6, ?_, rfl, rfl⟩
        have e0 : clkB x.c 0 = [] := rfl
        rw [e0, List.append_nil]
        exact mm
      clear mm h1 h4 h5 h6 h
      clear ao co
      rintro k e w2 ⟨i, ao, co, hki, h1, h4, h5, h6, mm, h41, h42⟩
      refine c_sreg rfl ?_
      refine s1 (r_lt h42 rfl) ?_
      refine wn ?_
      refine c_seq ?_
      refine c_cond rfl (fun h => (c_skip (t_n ?_))) (fun h => (c_exit (t_x (t_x (b_x (t_n ?_))))))
      · have hi : i < 5 := by simp at h; omega
        clear h
        have hci := ok.c i hi
        have hcl2 := clkB_len x.c ok.c i (by omega)
        refine c_seq ?_
        refine c_block ?_
        refine c_sreg rfl ?_
        refine s1 (r_ixv h41 h42 (by omega) (by omega) (nth_clk x.c _ (by omega))) ?_
        refine s1 (r_asi rfl) ?_
        refine wn ?_
        refine c_region rfl ?_
        refine s1 (r_mvf h5) ?_
        refine s1 (r_mvi rfl) ?_
        refine so (o_f11 rfl rfl (c_rPut1 mm 2 1 (x.c.get i) hci.1 (by omega) rfl rfl (by decide) (by rw [List.length_append]; omega)) ?_)
        rintro _ w11 ⟨rfl, a11, c11, mm⟩
        refine wn (b_n (t_n ?_))
        rw [List.append_assoc, ← clkB_succ] at mm
        refine c_region rfl ?_
        refine s1 (r_add h42 rfl (wi (by omega) (by omega))) ?_
        refine s1 (r_mvi rfl) ?_
        refine wn (t_n ?_)
        exact ⟨k - 1, by omega, i + 1, _, _, by omega, h1, h4, h5, h6, mm, h41, rfl⟩
      · have hi : i = 5 := by simp at h; omega
        subst hi
        rw [hp2] at mm
        exact ⟨_, _, h1, h4, h5, h6, mm⟩
    · rw [h, if_neg (by decide), List.append_nil] at hp2
      subst hp2
      exact ⟨_, _, h1, h4, h5, h6, mm⟩
  clear mm h1 h4 h5 h6
  clear ao co
  rintro e w1 ⟨ao, co, h1, h4, h5, h6, mm⟩
  have hl44 := evsB_len ok.es
  have hn := vput_len10 x.es.length (by have := ok.most; omega)
  have hmost := ok.most
  generalize hp3 : p2 ++ (if (parts x.kind).2.2.1 then vput x.es.length ++ evsB x.es else []) = p3
  have hl3 : p3.length ≤ 200000 := by
    rw [← hp3, List.length_append]
    split
    · rw [List.length_append]; omega
    · simp; omega
  have hbody : bodyR x = p3 := by rw [← hp3, ← hp2, ← hp1, ← hp0]; rfl
  refine c_seq ?_
  refine c_sreg rfl ?_
  refine s1 (r_fa h6) ?_
  refine s1 (r_ld rfl (mm.b 3 rfl) rfl) ?_
  refine wn ?_
  refine c_mid0 (fun e w' => ∃ ao co, e 1 = .pointer (some ⟨b2, 0, none⟩) ∧ e 4 = .pointer (some ⟨b5, 0, none⟩) ∧ e 5 = .func (.func 56) #[] #[.pointer (some ⟨b5, 0, none⟩)] ∧ e 6 = .pointer (some ⟨b8, 0, none⟩) ∧ Mem w No w' (rpL x a cap b2 b5 b8 ao co p3)) ?_ ?_
  · refine c_cond rfl (fun h => ?_) (fun h => (c_skip (t_n ?_)))
    · rw [if_pos h] at hp3
      clear h
      refine c_sreg rfl ?_
      refine s1 (r_mvf h5) ?_
      refine s1 (r_fa h1) ?_
      refine s1 (r_ld rfl (mm.b 0 rfl) rfl) ?_
      refine s1 (r_len rfl) ?_
      refine so (o_f11 rfl rfl (c_rPut1 mm 2 1 ((x.es.length : Nat) : Int) (by omega) (by omega) rfl rfl (by decide) (by omega)) ?_)
      rintro _ w12 ⟨rfl, a12, c12, mm⟩
      refine wn ?_
      refine c_sreg rfl ?_
      refine s1 (r_fa h1) ?_
      refine s1 (r_ld rfl (mm.b 0 rfl) rfl) ?_
      refine s1 (r_len rfl) ?_
      refine s1 (r_mvi rfl) ?_
      refine wn ?_
      generalize hq : p2 ++ vput (((x.es.length : Nat) : Int)).toNat = q at *
      have hlq : q.length ≤ 72 := by rw [← hq, List.length_append]; show _ + (vput x.es.length).length ≤ 72; omega
      have hq' : q ++ evsB x.es = p3 := by rw [← hq, ← hp3, List.append_assoc]; rfl
      refine c_block ?_
      refine c_loop (fun k e w' => ∃ i ao co, k + i = x.es.length ∧ e 1 = .pointer (some ⟨b2, 0, none⟩) ∧ e 4 = .pointer (some ⟨b5, 0, none⟩) ∧ e 5 = .func (.func 56) #[] #[.pointer (some ⟨b5, 0, none⟩)] ∧ e 6 = .pointer (some ⟨b8, 0, none⟩) ∧ Mem w No w' (rpL x a cap b2 b5 b8 ao co (q ++ evsB (x.es.take i))) ∧ e 57 = .slice a x.es.length cap ∧ e 58 = .int .i64 (x.es.length : Nat) ∧ e 59 = .int .i64 (i : Nat)) x.es.length ?_ ?_
      · obtain ⟨ao, co, mm⟩ : ∃ ao co, Mem w No _ (rpL x a cap b2 b5 b8 ao co q) := ⟨_, _, mm⟩
        refine ⟨0, ao, co, rfl, h1, h4, h5, h6, ?_, rfl, rfl, rfl⟩
        have e0 : evsB (x.es.take 0) = [] := rfl
        rw [e0, List.append_nil]
        exact mm
      clear mm h1 h4 h5 h6
      rintro k e w2 ⟨i, ao, co, hki, h1, h4, h5, h6, mm, h57, h58, h59⟩
      refine c_sreg rfl ?_
      refine s1 (r_lt h59 h58) ?_
      refine wn ?_
      refine c_seq ?_
      refine c_cond rfl (fun h => (c_skip (t_n ?_))) (fun h => (c_exit (t_x (t_x (b_x (t_n ?_))))))
      · have hi : i < x.es.length := by simp at h; omega
        clear h
        have hyz := ok.es x.es[i] (List.getElem_mem hi)
        have hyl := putE_le x.es[i] (evMay_ok hyz)
        have hel := evsB_len (l := x.es.take i) (fun y hy => ok.es y (List.mem_of_mem_take hy))
        rw [List.length_take] at hel
        have hel2 : (q ++ evsB (x.es.take i)).length ≤ 190000 := by rw [List.length_append]; omega
        refine c_seq ?_
        refine c_block ?_
        refine c_sreg rfl ?_
        refine s1 (r_ix h57 h59 (by omega) (by omega) (evs_some H hi)) ?_
        refine s1 (r_ldce rfl (mm.ro H) (seg_evs x.es i hi) (evs_le x.es i hi) (by decide)) ?_
        refine so (o_al mm fun b13 w13 mm => ?_)
        refine ss (o_sta mm 4 rfl rfl rfl rfl rfl (Nat.le_of_ble_eq_true rfl) fun w14 mm => ?_)
        refine wn ?_
        refine c_sreg rfl ?_
        refine s1 (r_lda rfl (mm.b 4 rfl) rfl) ?_
        refine so (o_c1 rfl (c_ePut0 x.es[i] hyz _ rfl _) ?_)
        rintro _ w15 ⟨a15, c15, rfl, hc, hn'⟩
        have mm := mm.new hc hn'
        refine s1 (r_mvu rfl) ?_
        refine s1 (r_exts rfl rfl) ?_
        refine s1 (r_exti rfl rfl) ?_
        refine s1 (r_ass rfl) ?_
        refine s1 (r_asi rfl) ?_
        refine wn ?_
        refine c_region rfl ?_
        refine s1 (r_ld h4 (mm.b 2 rfl) rfl) ?_
        refine s1 (r_mvs rfl) ?_
        refine so (o_ap mm 1 rfl rfl rfl (src_own mm 5 rfl (ones_u8s _)) (by omega) (by unfold maxLen; omega) fun a16 c16 w16 mm => ?_)
        refine ss (o_st mm 2 rfl h4 rfl rfl rfl fun w17 mm => ?_)
        refine wn (b_n (t_n ?_))
        have mm := mm.pk [0, 1, 2, 3] (by decide)
        rw [← u8s_append, List.append_assoc, ← evsB_succ _ _ hi] at mm
        have hle : (q ++ evsB (x.es.take i)).length + (putE x.es[i]).length = (q ++ evsB (x.es.take (i + 1))).length := by rw [evsB_succ _ _ hi, ← List.append_assoc, ← List.length_append]
        rw [hle] at mm
        refine c_region rfl ?_
        refine s1 (r_add h59 rfl (wi (by omega) (by omega))) ?_
        refine s1 (r_mvi rfl) ?_
        refine wn (t_n ?_)
        exact ⟨k - 1, by omega, i + 1, _, _, by omega, h1, h4, h5, h6, mm, h57, h58, rfl⟩
      · have hi : i = x.es.length := by simp at h; omega
        subst hi
        rw [List.take_length, hq'] at mm
        exact ⟨_, _, h1, h4, h5, h6, mm⟩
    · rw [h, if_neg (by decide), List.append_nil] at hp3
      subst hp3
      exact ⟨_, _, h1, h4, h5, h6, mm⟩
  clear mm h1 h4 h5 h6
  clear ao co
  rintro e w1 ⟨ao, co, h1, h4, h5, h6, mm⟩
  have hls := sealL_length p3
  refine c_sreg rfl ?_
  refine s1 (r_ld h4 (mm.b 2 rfl) rfl) ?_
  refine so (o_c1 rfl (c_seal p3 (by omega) _ _ ⟨_, _, rfl, own_le (mm.o 1 rfl), mm.c 1 rfl⟩) ?_)
  rintro _ w18 ⟨a18, c18, rfl, hc, hn'⟩
  have mm := mm.new hc hn'
  refine s1 (r_ass rfl) ?_
  refine wn ?_
  have hv := vput_len10 (sealL p3).length (by omega)
  have hput : putR x = vput (sealL p3).length ++ sealL p3 := by unfold putR; rw [hbody]
  refine c_sreg rfl ?_
  refine s1 (r_mvs rfl) ?_
  refine s1 (r_len rfl) ?_
  refine s1 (r_cv rfl (wu64n (by omega) (by omega))) ?_
  refine so (o_c1 rfl (c_vput (sealL p3).length (by omega) _) ?_)
  rintro _ w19 ⟨a19, c19, rfl, hc, hn'⟩
  have mm := mm.new hc hn'
  refine s1 (r_mvs rfl) ?_
  refine so (o_ap mm  5 rfl rfl rfl (src_own mm  4 rfl (ones_u8s _)) (by omega) (by unfold maxLen; omega) fun a20 c20 w20 mm => ?_)
  refine s1 (r_ass rfl) ?_
  refine s1 (r_asi rfl) ?_
  refine wn ?_
  rw [← u8s_append] at mm
  rw [hput, List.length_append]
  exact c_ret (ret2 rfl rfl rfl ⟨_, _, rfl, mm.chg, mm.isNew 5 rfl⟩)
end Go.Proofs.Ytgdbbaggkoillaa
/- frame.Put, kithlaw07.shown: walks. -/
namespace Go.Proofs.Ytgdbbaggkoillaa
open K
set_option maxRecDepth 100000
set_option maxHeartbeats 4000000

theorem nth_clkI (c : Clk) (i : Nat) (h : i < 5) : nth (clkC c) (((i : Nat) : Int).toNat) = some (.int .i64 (c.get i)) := nth_clk c i h
theorem bodyF_len {x : Rec} (ok : FrOk x) : (bodyF x).length ≤ 1000 := by
  have hl44 := evsB_len ok.es
  have hmost := ok.most
  have hcl := clkB_len x.c ok.c 5 (Nat.le_refl _)
  have hu := vput_len10 x.upto.toNat (by have := ok.u1; omega)
  unfold bodyF
  rw [List.length_append]
  have h0 : [UInt8.ofNat x.kind.toNat, UInt8.ofNat x.r.toNat].length = 2 := rfl
  rw [h0]
  split
  · omega
  · split
    · omega
    · rw [List.length_cons]; omega
theorem c_fPut (x : Rec) {a : Option Addr} {cap : Nat} (w : World) (H : Cells w a (evsC x.es)) (hw : ClkW x.c) : Cl Try.prog 30 #[.agg (recV x a cap).toArray] w
    (fun v w' => ∃ a' c', v = .tuple #[.slice a' (frPut x).length c', .int .i64 (if frMay x then 0 else 1)] ∧ Chg No w w' ∧ New w w' (own 5 1 a' (frPut x).length c' (u8s (frPut x)))) := by
  refine f_enter (args := [_]) Try.func30 rfl rfl ?_
  have mm := Mem.nil No w
  refine c_sreg rfl ?_
  refine so (o_bxa mm rfl fun b2 w2 mm => ?_)
  refine s1 (r_ass rfl) ?_
  refine s1 (r_asi rfl) ?_
  refine wn ?_
  refine c_seq ?_
  refine c_sreg rfl ?_
  refine s1 (r_lda rfl (mm.b 0 rfl) rfl) ?_
  refine so (o_c1 rfl (c_frMay x _ (mm.ro H) hw) ?_)
  rintro _ w3 ⟨rfl, hc⟩
  have mm := mm.frame hc
  refine s1 (r_not rfl) ?_
  refine wn ?_
  refine c_cond rfl (fun h => ?_) (fun h => (c_skip (t_n ?_)))
  · have hz : frMay x = false := by simpa using h
    refine c_sreg rfl ?_
    refine s1 (r_ass rfl) ?_
    refine s1 (r_asi rfl) ?_
    refine wn ?_
    have e1 : frPut x = [] := by unfold frPut; rw [hz]; rfl
    rw [e1, hz]
    have mm := mm.nilrow (T := 5) (sz := 1)
    exact c_ret (ret2 rfl rfl rfl ⟨none, 0, rfl, mm.chg, mm.isNew 1 rfl⟩)
  have hz : frMay x = true := by simpa using h
  clear h
  have ok := frMay_ok hz
  have e1 : frPut x = putF x := by unfold frPut; rw [hz]; rfl
  rw [e1, hz]
  have hkin := fHas_in ok.is
  have hbl := bodyF_len ok
  refine c_sreg rfl ?_
  refine s1 (r_fa rfl) ?_
  refine s1 (r_ld rfl (mm.b 0 rfl) rfl) ?_
  refine s1 (r_cv rfl rfl) ?_
  refine s1 (r_fa rfl) ?_
  refine s1 (r_ld rfl (mm.b 0 rfl) rfl) ?_
  refine s1 (r_cv rfl rfl) ?_
  refine so (o_bi2 mm rfl rfl fun a4 c4 w4 mm => ?_)
  refine s1 (r_ass rfl) ?_
  refine wn ?_
  rw [u8_int _ (by omega), u8_int _ ok.r0] at mm
  have mm : Mem w No _ [bk b2 (recV x a cap) 47, own 5 1 a4 [UInt8.ofNat x.kind.toNat, UInt8.ofNat x.r.toNat].length c4 (u8s [UInt8.ofNat x.kind.toNat, UInt8.ofNat x.r.toNat])] := mm
  generalize hp0 : [UInt8.ofNat x.kind.toNat, UInt8.ofNat x.r.toNat] = g0 at *
  have hl0 : g0.length = 2 := by rw [← hp0]; rfl
  refine c_seq ?_
  refine c_sreg rfl ?_
  refine s1 (r_fa rfl) ?_
  refine s1 (r_ld rfl (mm.b 0 rfl) rfl) ?_
  refine so (o_c1 rfl (c_has x.kind _) ?_)
  rintro _ w5 ⟨rfl, hc⟩
  have mm := mm.frame hc
  refine wn ?_
  generalize hB : bodyF x = B at *
  have hB' : g0 ++ (if fHas x.kind = 2 then vput x.upto.toNat else if fHas x.kind = 3 then clkB x.c 5 else UInt8.ofNat x.es.length :: evsB x.es) = B := by rw [← hB, ← hp0]; rfl
  have hu := vput_len10 x.upto.toNat (by have := ok.u1; omega)
  have hfx : ∀ (q : List UInt8) {w' : World} {a' : Option Addr} {n c' : Nat} {cs : List Value}, Mem w No w' [bk b2 (recV x a cap) 47, own 5 1 a' n c' cs] → n = q.length → cs = u8s q → Mem w No w' [bk b2 (recV x a cap) 47, own 5 1 a' q.length c' (u8s q)] := fun q _ _ _ _ _ h h1 h2 => h.castp h1 h2
  refine c_mid0 (fun e w' => ∃ ao co, e 1 = .pointer (some ⟨b2, 0, none⟩) ∧ e 4 = .slice ao B.length co ∧ Mem w No w' [bk b2 (recV x a cap) 47, own 5 1 ao B.length co (u8s B)]) ?_ ?_
  · refine c_block ?_
    refine c_sreg rfl ?_
    refine s1 (r_eq rfl rfl) ?_
    refine s1 (r_asb rfl) ?_
    refine wn ?_
    refine c_cond rfl (fun h => ?_) (fun h => ?_)
    · have h2 : fHas x.kind = 2 := by simpa using h
      rw [if_pos h2] at hB'
      refine c_region rfl ?_
      refine s1 (r_mvs (show _ = Value.slice a4 g0.length c4 by rw [hl0]; rfl)) ?_
      refine s1 (r_fa rfl) ?_
      refine s1 (r_ld rfl (mm.b 0 rfl) rfl) ?_
      refine s1 (r_cv rfl (wu64n ok.u0 (by have := ok.u1; omega))) ?_
      refine so (o_c1 rfl (c_vput x.upto.toNat (by have := ok.u1; omega) _) ?_)
      rintro _ w6 ⟨a6, c6, rfl, hc, hn⟩
      have mm := mm.new hc hn
      refine so (o_ap mm 1 rfl rfl rfl (src_own mm  2 rfl (ones_u8s _)) (by omega) (by unfold maxLen; omega) fun a7 c7 w7 mm => ?_)
      refine s1 (r_ass rfl) ?_
      refine wn (b_n (t_n ?_))
      have hle : B.length = g0.length + (vput x.upto.toNat).length := by rw [← hB', List.length_append]
      have mm := hfx B (mm.pk [0, 1] (by decide)) hle.symm (by rw [← hB', u8s_append])
      refine ⟨_, _, rfl, ?_, mm⟩
      rw [hle]; rfl
    have h2 : ¬ fHas x.kind = 2 := by simpa using h
    clear h
    rw [if_neg h2] at hB'
    refine c_sreg rfl ?_
    refine s1 (r_eq rfl rfl) ?_
    refine s1 (r_asb rfl) ?_
    refine wn ?_
    refine c_cond rfl (fun h => ?_) (fun h => ?_)
    · have h3 : fHas x.kind = 3 := by simpa using h
      clear h
      rw [if_pos h3] at hB'
      refine c_sreg rfl ?_
      refine s1 (r_fa rfl) ?_
      refine s1 (r_lda rfl (mm.b 0 rfl) rfl) ?_
      refine s1 (r_mvi rfl) ?_
      refine wn ?_
      refine c_block ?_
      refine c_loop (fun k e w' => ∃ i ao co, k + i = 5 ∧ e 1 = .pointer (some ⟨b2, 0, none⟩) ∧ e 4 = .slice ao (g0 ++ clkB x.c i).length co ∧ Mem w No w' [bk b2 (recV x a cap) 47, own 5 1 ao (g0 ++ clkB x.c i).length co (u8s (g0 ++ clkB x.c i))] ∧ e 35 = .agg (clkC x.c).toArray ∧ e 36 = .int .i64 (i : Nat)) 5 ?_ ?_
      · have e0 : clkB x.c 0 = [] := rfl
        refine ⟨0, a4, c4, rfl, rfl, ?_, ?_, rfl, rfl⟩
        · rw [e0, List.append_nil, hl0]; rfl
        · rw [e0, List.append_nil]; exact mm
      clear mm
      rintro k e w2 ⟨i, ao, co, hki, h1, h4, mm, h35, h36⟩
      refine c_sreg rfl ?_
      refine s1 (r_lt h36 rfl) ?_
      refine wn ?_
      refine c_seq ?_
      refine c_cond rfl (fun h => (c_skip (t_n ?_))) (fun h => (c_exit (t_x (t_x (b_x (b_n (t_n ?_)))))))
      · have hi : i < 5 := by simp at h; omega
        clear h
        have hci := ok.c i hi
        have hcl2 := clkB_len x.c ok.c i (by omega)
        have hv10 := vput_len10 (x.c.get i).toNat (by omega)
        have hle0 : (g0 ++ clkB x.c i).length ≤ 62 := by rw [List.length_append]; omega
        refine c_seq ?_
        refine c_block ?_
        refine c_sreg rfl ?_
        refine s1 (r_ixv h35 h36 (by omega) (by omega) (nth_clkI x.c i hi)) ?_
        refine s1 (r_asi rfl) ?_
        refine wn ?_
        refine c_region rfl ?_
        refine s1 (r_mvs h4) ?_
        refine s1 (r_mvi rfl) ?_
        refine s1 (r_cv rfl (wu64n hci.1 (by omega))) ?_
        refine so (o_c1 rfl (c_vput (x.c.get i).toNat (by omega) _) ?_)
        rintro _ w8 ⟨a8, c8, rfl, hc, hn⟩
        have mm := mm.new hc hn
        refine so (o_ap mm 1 rfl rfl rfl (src_own mm  2 rfl (ones_u8s _)) (by omega) (by unfold maxLen; omega) fun a9 c9 w9 mm => ?_)
        refine s1 (r_ass rfl) ?_
        refine wn (b_n (t_n ?_))
        have mm := hfx (g0 ++ clkB x.c (i + 1)) (mm.pk [0, 1] (by decide)) (by rw [clkB_succ, len3]) (by rw [clkB_succ, u8s3])
        refine c_region rfl ?_
        refine s1 (r_add h36 rfl (wi (by omega) (by omega))) ?_
        refine s1 (r_mvi rfl) ?_
        refine wn (t_n ?_)
        refine ⟨k - 1, by omega, i + 1, _, _, by omega, h1, ?_, mm, h35, rfl⟩
        rw [clkB_succ, len3]; rfl
      · have hi : i = 5 := by simp at h; omega
        subst hi
        rw [hB'] at mm h4
        exact ⟨_, _, h1, h4, mm⟩
    have h3 : ¬ fHas x.kind = 3 := by simpa using h
    clear h
    rw [if_neg h3] at hB'
    have h1' : fHas x.kind = 1 := by
      rcases fHas_123 x.kind with h | h | h | h
      · exact absurd h ok.is
      · exact h
      · exact absurd h h2
      · exact absurd h h3
    have hmost := ok.most
    have hl44 := evsB_len ok.es
    refine c_sreg rfl ?_
    refine s1 (r_eq rfl rfl) ?_
    refine s1 (r_asb rfl) ?_
    refine wn ?_
    refine c_cond rfl (fun h => ?_) (fun h => (c_skip (b_n (t_n ?_))))
    · clear h
      refine c_sreg rfl ?_
      refine s1 (r_mvs (show _ = Value.slice a4 g0.length c4 by rw [hl0]; rfl)) ?_
      refine s1 (r_fa rfl) ?_
      refine s1 (r_ld rfl (mm.b 0 rfl) rfl) ?_
      refine s1 (r_len rfl) ?_
      refine s1 (r_cv rfl rfl) ?_
      refine so (o_bi1 mm rfl fun a10 c10 w10 mm => ?_)
      refine so (o_ap mm 1 rfl rfl rfl (src_own mm 2 rfl rfl) (by omega) (by unfold maxLen; omega) fun a11 c11 w11 mm => ?_)
      refine s1 (r_ass rfl) ?_
      refine wn ?_
      rw [u8_any] at mm
      have hle : (g0 ++ [UInt8.ofNat x.es.length]).length = g0.length + 1 := by rw [List.length_append]; rfl
      have mm := hfx (g0 ++ [UInt8.ofNat x.es.length]) (mm.pk [0, 1] (by decide)) hle.symm (by rw [u8s_append]; rfl)
      have hq' : g0 ++ [UInt8.ofNat x.es.length] ++ evsB x.es = B := by rw [← hB', List.append_assoc]; rfl
      generalize g0 ++ [UInt8.ofNat x.es.length] = q at *
      refine c_sreg rfl ?_
      refine s1 (r_fa rfl) ?_
      refine s1 (r_ld rfl (mm.b 0 rfl) rfl) ?_
      refine s1 (r_len rfl) ?_
      refine s1 (r_mvi rfl) ?_
      refine wn ?_
      refine c_block ?_
      refine c_loop (fun k e w' => ∃ i ao co, k + i = x.es.length ∧ e 1 = .pointer (some ⟨b2, 0, none⟩) ∧ e 4 = .slice ao (q ++ evsB (x.es.take i)).length co ∧ Mem w No w' [bk b2 (recV x a cap) 47, own 5 1 ao (q ++ evsB (x.es.take i)).length co (u8s (q ++ evsB (x.es.take i)))] ∧ e 55 = .slice a x.es.length cap ∧ e 56 = .int .i64 (x.es.length : Nat) ∧ e 57 = .int .i64 (i : Nat)) x.es.length ?_ ?_
      · have e0 : evsB (x.es.take 0) = [] := rfl
        refine ⟨0, a11, c11, rfl, rfl, ?_, ?_, rfl, rfl, rfl⟩
        · rw [e0, List.append_nil, hle]; rfl
        · rw [e0, List.append_nil]; exact mm
      clear mm
      rintro k e w2 ⟨i, ao, co, hki, h1, h4, mm, h55, h56, h57⟩
      refine c_sreg rfl ?_
      refine s1 (r_lt h57 h56) ?_
      refine wn ?_
      refine c_seq ?_
      refine c_cond rfl (fun h => (c_skip (t_n ?_))) (fun h => (c_exit (t_x (t_x (b_x (b_n (t_n ?_)))))))
      · have hi : i < x.es.length := by simp at h; omega
        clear h
        have hyz := ok.es x.es[i] (List.getElem_mem hi)
        have hyl := putE_le x.es[i] (evMay_ok hyz)
        have hel := evsB_len (l := x.es.take i) (fun y hy => ok.es y (List.mem_of_mem_take hy))
        rw [List.length_take] at hel
        have hel2 : (q ++ evsB (x.es.take i)).length ≤ 190000 := by rw [List.length_append]; omega
        refine c_seq ?_
        refine c_block ?_
        refine c_sreg rfl ?_
        refine s1 (r_ix h55 h57 (by omega) (by omega) (evs_some H hi)) ?_
        refine s1 (r_ldce rfl (mm.ro H) (seg_evs x.es i hi) (evs_le x.es i hi) (by decide)) ?_
        refine so (o_al mm fun b12 w12 mm => ?_)
        refine ss (o_sta mm 2 rfl rfl rfl rfl rfl (Nat.le_of_ble_eq_true rfl) fun w13 mm => ?_)
        refine wn ?_
        refine c_sreg rfl ?_
        refine s1 (r_lda rfl (mm.b 2 rfl) rfl) ?_
        refine so (o_c1 rfl (c_ePut0 x.es[i] hyz _ rfl _) ?_)
        rintro _ w14 ⟨a14, c14, rfl, hc, hn⟩
        have mm := mm.new hc hn
        refine s1 (r_mvu rfl) ?_
        refine s1 (r_exts rfl rfl) ?_
        refine s1 (r_exti rfl rfl) ?_
        refine s1 (r_ass rfl) ?_
        refine s1 (r_asi rfl) ?_
        refine wn ?_
        refine c_region rfl ?_
        refine s1 (r_mvs h4) ?_
        refine s1 (r_mvs rfl) ?_
        refine so (o_ap mm 1 rfl rfl rfl (src_own mm 3 rfl (ones_u8s _)) (by omega) (by unfold maxLen; omega) fun a15 c15 w15 mm => ?_)
        refine s1 (r_ass rfl) ?_
        refine wn (b_n (t_n ?_))
        have mm := hfx (q ++ evsB (x.es.take (i + 1))) (mm.pk [0, 1] (by decide)) (by rw [evsB_succ _ _ hi, len3]) (by rw [evsB_succ _ _ hi, u8s3])
        refine c_region rfl ?_
        refine s1 (r_add h57 rfl (wi (by omega) (by omega))) ?_
        refine s1 (r_mvi rfl) ?_
        refine wn (t_n ?_)
        refine ⟨k - 1, by omega, i + 1, _, _, by omega, h1, ?_, mm, h55, h56, rfl⟩
        rw [evsB_succ _ _ hi, len3]; rfl
      · have hi : i = x.es.length := by simp at h; omega
        subst hi
        rw [List.take_length, hq'] at mm h4
        exact ⟨_, _, h1, h4, mm⟩
    · exfalso
      rw [h1'] at h
      cases h
  clear mm hc
  rintro e w1 ⟨ao, co, h1, h4, mm⟩
  have hv := vput_len10 B.length (by omega)
  have hput : putF x = sealL (vput B.length ++ B) := by unfold putF; rw [hB]
  have hls := sealL_length (vput B.length ++ B)
  rw [List.length_append] at hls
  refine c_sreg rfl ?_
  refine s1 (r_mvs h4) ?_
  refine s1 (r_len rfl) ?_
  refine s1 (r_cv rfl (wu64n (by omega) (by omega))) ?_
  refine so (o_c1 rfl (c_vput B.length (by omega) _) ?_)
  rintro _ w16 ⟨a16, c16, rfl, hc, hn⟩
  have mm := mm.new hc hn
  refine s1 (r_mvs h4) ?_
  refine so (o_ap mm  2 rfl rfl rfl (src_own mm 1 rfl (ones_u8s _)) (by omega) (by unfold maxLen; omega) fun a17 c17 w17 mm => ?_)
  refine so (o_c1 rfl (c_seal (vput B.length ++ B) (by rw [List.length_append]; omega) _ _ ⟨_, _, by rw [List.length_append]; rfl, by rw [List.length_append]; exact own_le (mm.o 2 rfl), by rw [u8s_append]; exact mm.c 2 rfl⟩) ?_)
  rintro _ w18 ⟨a18, c18, rfl, hc, hn⟩
  have mm := mm.new hc hn
  refine s1 (r_ass rfl) ?_
  refine s1 (r_asi rfl) ?_
  refine wn ?_
  rw [hput]
  exact c_ret (ret2 rfl rfl rfl ⟨_, _, rfl, mm.chg, mm.isNew 3 rfl⟩)

theorem frPut_shown : frPut ⟨2, 2, 300, clk0, []⟩ = sealL [4, 2, 2, 172, 2] := by
  have h2 : vput 2 = [2] := by rw [vput]; rfl
  have h300 : vput 300 = [172, 2] := by rw [vput, if_neg (by decide)]; show _ :: vput 2 = _; rw [h2]; rfl
  have h4 : vput 4 = [4] := by rw [vput]; rfl
  have hb : bodyF ⟨2, 2, 300, clk0, []⟩ = [2, 2, 172, 2] := by
    show [UInt8.ofNat 2, UInt8.ofNat 2] ++ vput 300 = _
    rw [h300]; rfl
  show putF ⟨2, 2, 300, clk0, []⟩ = _
  unfold putF
  rw [hb]
  show sealL (vput 4 ++ _) = _
  rw [h4]; rfl
theorem c_shown07 (w : World) : Cl Try.prog 29 #[] w (fun v w' => v = .bool true ∧ Chg No w w') := by
  refine f_enter (args := []) Try.func29 rfl rfl ?_
  have mm := Mem.nil No w
  refine c_sreg rfl ?_
  refine s1 (r_asb rfl) ?_
  refine wn ?_
  have hz : frMay ⟨2, 2, 300, clk0, []⟩ = true := by decide
  refine c_sreg rfl ?_
  refine s1 (r_bd (bi rfl (bi rfl (bi rfl bN))) rfl) ?_
  refine so (o_c1 rfl (c_fPut ⟨2, 2, 300, clk0, []⟩ (a := none) (cap := 0) w (Cells.nil _ _) clk0_w) ?_)
  rintro _ w2 ⟨a2, c2, rfl, hc, hn⟩
  have mm := mm.new hc hn
  refine s1 (r_mvu rfl) ?_
  refine s1 (r_exts rfl rfl) ?_
  refine s1 (r_exti rfl rfl) ?_
  refine s1 (r_ass rfl) ?_
  refine s1 (r_asi rfl) ?_
  refine wn ?_
  refine c_sdraw2 mixed [(0, some 0), (1, some 2), (2, none), (3, none), (4, none), (5, some 0), (6, some 0), (7, some 0), (8, some 0), (9, some 0), (10, some 0), (11, some 0), (12, some 0), (13, some 0), (14, some 0), (15, some 0)] [0, 0, 2, 2, 2, 0, 0, 0, 0, 0, 0, 0, 0, 0, 0, 0] (Sof (mm.pk [0] (by decide))) (Sof (mm.pk [0] (by decide))) (fun _ h => h) (by kernel_rfl) rfl rfl (by kernel_rfl) (fun w3 hc => ?_)
  have mm := mm.frame hc
  refine q01 rfl (fun w => r_mvs rfl) ?_
  refine qA1 rfl (fun w m => r_b2s rfl (m.c 0 rfl) rfl) (mm.pk [0] (by decide)) ?_
  refine qo rfl (o_bi5 mm rfl rfl rfl rfl rfl fun a4 c4 w4 mm => ⟨(mm.pk [0] (by decide)), ?_⟩)
  refine qo rfl (o_c1 rfl (c_seal [4, 2, 2, 172, 2] (by decide) _ _ ⟨_, _, rfl, own_le (mm.o 1 rfl), mm.c 1 rfl⟩) ?_)
  rintro _ w5 ⟨a5, c5, rfl, hc, hn⟩
  have mm := mm.new hc hn
  refine ⟨(mm.pk [0] (by decide)), ?_⟩
  refine qo rfl (o_v (r_b2s rfl (mm.c  2 rfl) rfl) ⟨(mm.pk [0] (by decide)), ?_⟩)
  refine q01 rfl (fun w => r_seq rfl rfl) ?_
  refine q01 rfl (fun w => r_mvb rfl) ?_
  refine q0T rfl rfl rfl (fun h w => r_mvi rfl) ?_
  refine q0T rfl rfl rfl (fun h w => r_eq (sel_t h :) rfl) ?_
  refine q01 rfl (fun w => r_and rfl rfl) ?_
  refine q01 rfl (fun w => r_mvb rfl) ?_
  refine q0T rfl rfl rfl (fun h w => r_mvs rfl) ?_
  refine q0T rfl rfl rfl (fun h w => r_len (sel_t h :)) ?_
  refine q0T rfl rfl rfl (fun h w => r_eq (sel_t h :) rfl) ?_
  refine q01 rfl (fun w => r_and rfl rfl) ?_
  refine q01 rfl (fun w => r_asb rfl) ?_
  refine qn ?_
  refine c_ret (ret1 rfl rfl ⟨congrArg Value.bool (?_ : _ = true), mm.chg⟩)
  rw [frPut_shown, hz]
  simp [sealL_length]
end Go.Proofs.Ytgdbbaggkoillaa
