/- record.fits, parts, may, Put: walks. -/
import Derived.Test.YtgdbbaggkoillaaCb
import Derived.Test.YtgdbbaggkoillaaRv
import Derived.Test.YtgdbbaggkoillaaTs
import Derived.Test.YtgdbbaggkoillaaEy
namespace Go.Proofs.Ytgdbbaggkoillaa
open K
set_option maxRecDepth 100000
set_option maxHeartbeats 4000000

theorem c_rFits (n : Int) (w : World) : Cl Try.prog 79 #[.int .i64 n] w (fun v w' => v = .bool (inEv n) ∧ Chg No w w') := by
  refine f_enter (args := [_]) Try.func79 rfl rfl ?_
  have mm := Mem.nil No w
  refine c_sreg rfl ?_
  refine s1 (r_asb rfl) ?_
  refine wn ?_
  refine c_sreg rfl ?_
  refine s1 (r_mvi rfl) ?_
  refine s1 (r_ge rfl rfl) ?_
  refine s1 (r_mvb rfl) ?_
  refine sT rfl rfl (fun h => r_mvi rfl) ?_
  refine sT rfl rfl (fun h => r_le (sel_t h :) rfl) ?_
  refine s1 (r_and rfl rfl) ?_
  refine s1 (r_asb rfl) ?_
  refine wn ?_
  exact c_ret (ret1 rfl rfl ⟨rfl, mm.chg⟩)

def prtV (k : Int) : Value := .tuple #[.agg [.bool (parts k).1, .bool (parts k).2.1, .bool (parts k).2.2.1].toArray, .bool (parts k).2.2.2]
theorem c_parts (k : Int) (w : World) : Cl Try.prog 57 #[.int .i64 k] w (fun v w' => v = prtV k ∧ Chg No w w') := by
  refine f_enter (args := [_]) Try.func57 rfl rfl ?_
  have mm := Mem.nil No w
  refine c_sreg rfl ?_
  refine so (o_al mm fun b2 w2 mm => ?_)
  refine s1 (r_asb rfl) ?_
  refine wn ?_
  have mm : Mem w No w2 [bk b2 [.bool false, .bool false, .bool false] 87] := mm
  refine c_seq ?_
  refine c_sreg rfl ?_
  refine s1 (r_mvi rfl) ?_
  refine wn ?_
  refine c_block ?_
  refine c_seq ?_
  refine c_sreg rfl ?_
  refine s1 (r_eq rfl rfl) ?_
  refine s1 (r_asb rfl) ?_
  refine wn ?_
  refine c_mid0 (fun e w' => e 2 = .pointer (some ⟨b2, 0, none⟩) ∧ e 4 = .int .i64 k ∧ e 5 = .bool (decide (k = 1 ∨ k = 2 ∨ k = 5)) ∧ Mem w No w' [bk b2 [.bool false, .bool false, .bool false] 87]) ?_ ?_
  · refine c_cond rfl (fun h => (c_skip (t_n ?_))) (fun h => ?_)
    · refine ⟨rfl, rfl, congrArg Value.bool ?_, mm⟩
      have hk : k = 1 := by simpa using h
      simp [hk]
    · have h1 : ¬ k = 1 := by simpa using h
      clear h
      refine c_sreg rfl ?_
      refine s1 (r_eq rfl rfl) ?_
      refine s1 (r_asb rfl) ?_
      refine wn ?_
      refine c_cond rfl (fun h => (c_skip (t_n ?_))) (fun h => ?_)
      · refine ⟨rfl, rfl, congrArg Value.bool ?_, mm⟩
        have hk : k = 2 := by simpa using h
        simp [hk]
      · have h2 : ¬ k = 2 := by simpa using h
        clear h
        refine c_region rfl ?_
        refine s1 (r_eq rfl rfl) ?_
        refine s1 (r_asb rfl) ?_
        refine wn (t_n ?_)
        refine ⟨rfl, rfl, congrArg Value.bool ?_, mm⟩
        simp [h1, h2]
  clear mm
  rintro e w9 ⟨h2, h4, h5, mm⟩
  refine c_cond h5 (fun h => ?_) (fun h => ?_)
  · have hk : k = 1 ∨ k = 2 ∨ k = 5 := by simpa using h
    have hp : parts k = (false, false, true, true) := if_pos hk
    refine c_sreg rfl ?_
    refine s1 (r_bd (bb rfl bN) rfl) ?_
    refine ss (o_sta mm 0 rfl h2 rfl rfl rfl (Nat.le_of_ble_eq_true rfl) fun w3 mm => ?_)
    refine s1 (r_asb rfl) ?_
    refine wn ?_
    refine c_ret (retc2 rfl h2 (mm.b 0 rfl) rfl rfl ⟨?_, mm.chg⟩)
    unfold prtV; rw [hp]; rfl
  have h1 : ¬ (k = 1 ∨ k = 2 ∨ k = 5) := by simpa using h
  clear h
  refine c_sreg rfl ?_
  refine s1 (r_eq h4 rfl) ?_
  refine s1 (r_asb rfl) ?_
  refine wn ?_
  refine c_cond rfl (fun h => ?_) (fun h => ?_)
  · have hk : k = 3 := by simpa using h
    have hp : parts k = (true, false, false, true) := (if_neg h1).trans (if_pos hk)
    refine c_sreg rfl ?_
    refine s1 (r_bd (bb rfl bN) rfl) ?_
    refine ss (o_sta mm 0 rfl h2 rfl rfl rfl (Nat.le_of_ble_eq_true rfl) fun w4 mm => ?_)
    refine s1 (r_asb rfl) ?_
    refine wn ?_
    refine c_ret (retc2 rfl h2 (mm.b 0 rfl) rfl rfl ⟨?_, mm.chg⟩)
    unfold prtV; rw [hp]; rfl
  have h3 : ¬ k = 3 := by simpa using h
  clear h
  refine c_sreg rfl ?_
  refine s1 (r_eq h4 rfl) ?_
  refine s1 (r_asb rfl) ?_
  refine wn ?_
  refine c_cond rfl (fun h => ?_) (fun h => ?_)
  · have hk : k = 4 := by simpa using h
    have hp : parts k = (true, false, true, true) := (if_neg h1).trans ((if_neg h3).trans (if_pos hk))
    refine c_sreg rfl ?_
    refine s1 (r_bd (bb rfl (bb rfl bN)) rfl) ?_
    refine ss (o_sta mm 0 rfl h2 rfl rfl rfl (Nat.le_of_ble_eq_true rfl) fun w5 mm => ?_)
    refine s1 (r_asb rfl) ?_
    refine wn ?_
    refine c_ret (retc2 rfl h2 (mm.b 0 rfl) rfl rfl ⟨?_, mm.chg⟩)
    unfold prtV; rw [hp]; rfl
  have h6 : ¬ k = 4 := by simpa using h
  clear h
  refine c_sreg rfl ?_
  refine s1 (r_eq h4 rfl) ?_
  refine s1 (r_asb rfl) ?_
  refine wn ?_
  refine c_cond rfl (fun h => ?_) (fun h => (c_skip (b_n (t_n ?_))))
  · have hk : k = 6 := by simpa using h
    have hp : parts k = (false, true, false, true) := (if_neg h1).trans ((if_neg h3).trans ((if_neg h6).trans (if_pos hk)))
    refine c_sreg rfl ?_
    refine s1 (r_bd (bb rfl bN) rfl) ?_
    refine ss (o_sta mm 0 rfl h2 rfl rfl rfl (Nat.le_of_ble_eq_true rfl) fun w6 mm => ?_)
    refine s1 (r_asb rfl) ?_
    refine wn ?_
    refine c_ret (retc2 rfl h2 (mm.b 0 rfl) rfl rfl ⟨?_, mm.chg⟩)
    unfold prtV; rw [hp]; rfl
  have h7 : ¬ k = 6 := by simpa using h
  have hp : parts k = (false, false, false, false) := (if_neg h1).trans ((if_neg h3).trans ((if_neg h6).trans (if_neg h7)))
  clear h
  refine c_sreg rfl ?_
  refine s1 (r_bd bN rfl) ?_
  refine ss (o_sta mm 0 rfl h2 rfl rfl rfl (Nat.le_of_ble_eq_true rfl) fun w7 mm => ?_)
  refine s1 (r_asb rfl) ?_
  refine wn ?_
  refine c_ret (retc2 rfl h2 (mm.b 0 rfl) rfl rfl ⟨?_, mm.chg⟩)
  unfold prtV; rw [hp]; rfl

/-! clocks compared -/
theorem clk_guard : Try.prog.eqGuardType Try.prog.depth 23 = false := by kernel_rfl
theorem clk_key : Try.prog.keyTypeAt 2 23 = true := by kernel_rfl
def ClkW (c : Clk) : Prop := i64 c.c0 ∧ i64 c.c1 ∧ i64 c.c2 ∧ i64 c.c3 ∧ i64 c.c4
theorem clk_eq (x y : Clk) (hx : ClkW x) (hy : ClkW y) (w : World) : (Op.equalIn 10000 23 (.agg (clkC x).toArray) (.agg (clkC y).toArray)).run Try.prog w = .ok (decide (x = y)) w := by
  obtain ⟨x0, x1, x2, x3, x4⟩ := hx
  obtain ⟨y0, y1, y2, y3, y4⟩ := hy
  refine run_eqa clk_key (by decide) (by kernel_rfl) (by kernel_rfl) (lit_clk (D := 1) x0 x1 x2 x3 x4) (lit_clk (D := 1) y0 y1 y2 y3 y4) ?_
  cases x; cases y
  simp
theorem clk0_w : ClkW clk0 := by unfold ClkW clk0 i64; simp

def recIt (x : Rec) (a : Option Addr) (cap b : Nat) : It := bk b (recV x a cap) 43
theorem c_recMay (x : Rec) {a : Option Addr} {cap : Nat} (w : World) (H : Cells w a (evsC x.es)) (hw : ClkW x.c) : Cl Try.prog 55 #[.agg (recV x a cap).toArray] w (fun v w' => v = .bool (recMay x) ∧ Chg No w w') := by
  refine f_enter (args := [_]) Try.func55 rfl rfl ?_
  have mm := Mem.nil No w
  refine c_sreg rfl ?_
  refine so (o_bxa mm rfl fun b2 w2 mm => ?_)
  refine s1 (r_asb rfl) ?_
  refine wn ?_
  refine c_sreg rfl ?_
  refine s1 (r_fa rfl) ?_
  refine s1 (r_ld rfl (mm.b 0 rfl) rfl) ?_
  refine so (o_c1 rfl (c_parts x.kind _) ?_)
  rintro _ w3 ⟨rfl, hc⟩
  have mm := mm.frame hc
  refine s1 (r_mvu rfl) ?_
  refine s1 (r_extg rfl rfl) ?_
  refine s1 (r_extb rfl rfl) ?_
  refine so (o_al mm fun b4 w4 mm => ?_)
  refine ss (o_sta mm 1 rfl rfl rfl rfl rfl (Nat.le_of_ble_eq_true rfl) fun w5 mm => ?_)
  refine s1 (r_asb rfl) ?_
  refine wn ?_
  refine c_seq ?_
  refine c_sreg rfl ?_
  refine s1 (r_mvb rfl) ?_
  refine s1 (r_not rfl) ?_
  refine s1 (r_mvb rfl) ?_
  refine sF rfl rfl (fun h => r_fa rfl) ?_
  refine sF rfl rfl (fun h => r_ld (sel_t h :) (mm.b 0 rfl) rfl) ?_
  refine sF rfl rfl (fun h => r_lt (sel_t h :) rfl) ?_
  refine s1 (r_or rfl rfl) ?_
  refine s1 (r_mvb rfl) ?_
  refine sF rfl rfl (fun h => r_fa rfl) ?_
  refine sF rfl rfl (fun h => r_ld (sel_t h :) (mm.b 0 rfl) rfl) ?_
  refine sF rfl rfl (fun h => r_ge (sel_t h :) rfl) ?_
  refine s1 (r_or rfl rfl) ?_
  refine s1 (r_mvb rfl) ?_
  refine sF rfl rfl (fun h => r_fa rfl) ?_
  refine sF rfl rfl (fun h => r_ld (sel_t h :) (mm.b 0 rfl) rfl) ?_
  refine sFw (I := Sof mm) rfl rfl mm (fun h => o_c1 (sel_t h :) (c_rFits x.upto _) (fun _ _ hh => ⟨hh.1, mm.frame hh.2⟩)) (fun w6 mm => ?_)
  refine sF rfl rfl (fun h => r_not (sel_t h :)) ?_
  refine s1 (r_or rfl rfl) ?_
  refine s1 (r_mvb rfl) ?_
  refine sF rfl rfl (fun h => r_fa rfl) ?_
  refine sF rfl rfl (fun h => r_ld (sel_t h :) (mm.b 1 rfl) rfl) ?_
  refine sF rfl rfl (fun h => r_not (sel_t h :)) ?_
  refine sF rfl rfl (fun h => r_mvb (sel_t h :)) ?_
  refine sTs rfl rfl (fun h => r_fa rfl) ?_
  refine sTs rfl rfl (fun h => r_ld (sel_t h :) (mm.b 0 rfl) rfl) ?_
  refine sTs rfl rfl (fun h => r_ne (sel_t h :) rfl) ?_
  refine sF rfl rfl (fun h => r_and (sel_t h :) (sel_and h :)) ?_
  refine s1 (r_or rfl rfl) ?_
  refine s1 (r_mvb rfl) ?_
  refine sF rfl rfl (fun h => r_fa rfl) ?_
  refine sF rfl rfl (fun h => r_ld (sel_t h :) (mm.b 1 rfl) rfl) ?_
  refine sF rfl rfl (fun h => r_not (sel_t h :)) ?_
  refine sF rfl rfl (fun h => r_mvb (sel_t h :)) ?_
  refine sTs rfl rfl (fun h => r_fa rfl) ?_
  refine sTs rfl rfl (fun h => r_lda (sel_t h :) (mm.b 0 rfl) rfl) ?_
  refine sTs rfl rfl (fun h => r_bd bN rfl) ?_
  refine sTs rfl rfl (fun h => r_nea clk_guard (clk_eq _ _ hw clk0_w) (sel_t h :) (sel_t h :)) ?_
  refine sF rfl rfl (fun h => r_and (sel_t h :) (sel_and h :)) ?_
  refine s1 (r_or rfl rfl) ?_
  refine s1 (r_mvb rfl) ?_
  refine sF rfl rfl (fun h => r_fa rfl) ?_
  refine sF rfl rfl (fun h => r_ld (sel_t h :) (mm.b 1 rfl) rfl) ?_
  refine sF rfl rfl (fun h => r_not (sel_t h :)) ?_
  refine sF rfl rfl (fun h => r_mvb (sel_t h :)) ?_
  refine sTs rfl rfl (fun h => r_fa rfl) ?_
  refine sTs rfl rfl (fun h => r_ld (sel_t h :) (mm.b 0 rfl) rfl) ?_
  refine sTs rfl rfl (fun h => r_len (sel_t h :)) ?_
  refine sTs rfl rfl (fun h => r_gt (sel_t h :) rfl) ?_
  refine sF rfl rfl (fun h => r_and (sel_t h :) (sel_and h :)) ?_
  refine s1 (r_or rfl rfl) ?_
  refine wn ?_
  refine c_cond rfl (fun h => ?_) (fun h => (c_skip (t_n ?_)))
  · refine c_sreg rfl ?_
    refine s1 (r_asb rfl) ?_
    refine wn ?_
    refine c_ret (ret1 rfl rfl ⟨congrArg Value.bool (?_ : false = recMay x), mm.chg⟩)
    have h : mayA x = true := h
    rw [recMay_abc, h]; rfl
  have hA : mayA x = false := h
  clear h
  refine c_seq ?_
  refine c_sreg rfl ?_
  refine s1 (r_fa rfl) ?_
  refine s1 (r_ld rfl (mm.b 0 rfl) rfl) ?_
  refine s1 (r_eq rfl rfl) ?_
  refine s1 (r_mvb rfl) ?_
  refine sT rfl rfl (fun h => r_fa rfl) ?_
  refine sT rfl rfl (fun h => r_ld (sel_t h :) (mm.b 0 rfl) rfl) ?_
  refine sT rfl rfl (fun h => r_len (sel_t h :)) ?_
  refine sT rfl rfl (fun h => r_ne (sel_t h :) rfl) ?_
  refine s1 (r_and rfl rfl) ?_
  refine s1 (r_mvb rfl) ?_
  refine sF rfl rfl (fun h => r_fa rfl) ?_
  refine sF rfl rfl (fun h => r_ld (sel_t h :) (mm.b 0 rfl) rfl) ?_
  refine sF rfl rfl (fun h => r_len (sel_t h :)) ?_
  refine sF rfl rfl (fun h => r_gt (sel_t h :) rfl) ?_
  refine s1 (r_or rfl rfl) ?_
  refine wn ?_
  refine c_cond rfl (fun h => ?_) (fun h => (c_skip (t_n ?_)))
  · refine c_sreg rfl ?_
    refine s1 (r_asb rfl) ?_
    refine wn ?_
    refine c_ret (ret1 rfl rfl ⟨congrArg Value.bool (?_ : false = recMay x), mm.chg⟩)
    have h : mayB x = true := h
    rw [recMay_abc, h, hA]; rfl
  have hB : mayB x = false := h
  clear h
  have hlen : x.es.length ≤ 4096 := by
    unfold mayB at hB
    simp at hB
    omega
  have mm : Mem w No _ [bk b2 (recV x a cap) 43] := mm.pk [0] (by decide)
  refine c_seq ?_
  refine c_sreg rfl ?_
  refine s1 (r_fa rfl) ?_
  refine s1 (r_lda rfl (mm.b 0 rfl) rfl) ?_
  refine s1 (r_mvi rfl) ?_
  refine wn ?_
  refine c_block ?_
  refine c_loop (fun k e w' => ∃ i, k + i = 5 ∧ e 1 = .pointer (some ⟨b2, 0, none⟩) ∧ e 81 = .agg (clkC x.c).toArray ∧ e 82 = .int .i64 (i : Nat) ∧ Mem w No w' [bk b2 (recV x a cap) 43] ∧ ∀ j, j < i → inEv (x.c.get j) = true) 5 ?_ ?_
  · exact ⟨0, rfl, rfl, rfl, rfl, mm, fun j hj => absurd hj (by omega)⟩
  clear mm
  rintro k e w9 ⟨i, hki, h1, h81, h82, mm, hall⟩
  refine c_sreg rfl ?_
  refine s1 (r_lt h82 rfl) ?_
  refine wn ?_
  refine c_seq ?_
  refine c_cond rfl (fun h => (c_skip (t_n ?_))) (fun h => (c_exit (t_x (t_x (b_x (t_n ?_))))))
  · have hi : i < 5 := by simp at h; omega
    clear h
    refine c_seq ?_
    refine c_block ?_
    refine c_sreg rfl ?_
    refine s1 (r_ixv h81 h82 (by omega) (by omega) (nth_clk x.c _ (by omega))) ?_
    refine s1 (r_asi rfl) ?_
    refine wn ?_
    refine c_sreg rfl ?_
    refine s1 (r_mvi rfl) ?_
    refine so (o_c1 rfl (c_rFits _ _) ?_)
    rintro _ w7 ⟨rfl, hc⟩
    have mm := mm.frame hc
    refine s1 (r_not rfl) ?_
    refine wn ?_
    refine c_cond rfl (fun h => ?_) (fun h => (c_skip (b_n (t_n ?_))))
    · refine c_sreg rfl ?_
      refine s1 (r_asb rfl) ?_
      refine wn ?_
      refine c_ret (ret1 rfl rfl ⟨congrArg Value.bool (?_ : false = recMay x), mm.chg⟩)
      have h9 : x.c.all inEv = false := by
        cases hq : x.c.all inEv with
        | false => rfl
        | true =>
          have := (Clk.all_iff _ _).1 hq i hi
          simp at h
          rw [this] at h; cases h
      rw [recMay_abc, h9, Bool.and_false]; rfl
    refine c_region rfl ?_
    refine s1 (r_add h82 rfl (wi (by omega) (by omega))) ?_
    refine s1 (r_mvi rfl) ?_
    refine wn (t_n ?_)
    refine ⟨k - 1, by omega, i + 1, by omega, h1, h81, rfl, mm, ?_⟩
    intro j hj
    rcases Nat.lt_or_ge j i with hlt | hge
    · exact hall j hlt
    · obtain rfl : j = i := by omega
      simpa using h
  have hi : i = 5 := by simp at h; omega
  subst hi
  clear h
  have hC : x.c.all inEv = true := (Clk.all_iff _ _).2 hall
  refine c_seq ?_
  refine c_sreg rfl ?_
  refine s1 (r_fa h1) ?_
  refine s1 (r_ld rfl (mm.b 0 rfl) rfl) ?_
  refine s1 (r_len rfl) ?_
  refine s1 (r_mvi rfl) ?_
  refine wn ?_
  refine c_block ?_
  refine c_loop (fun k e w' => ∃ i, k + i = x.es.length ∧ e 1 = .pointer (some ⟨b2, 0, none⟩) ∧ e 90 = .slice a x.es.length cap ∧ e 91 = .int .i64 (x.es.length : Nat) ∧ e 92 = .int .i64 (i : Nat) ∧ Mem w No w' [bk b2 (recV x a cap) 43] ∧ ∀ j, (h : j < x.es.length) → j < i → evMay x.es[j] = 0) x.es.length ?_ ?_
  · exact ⟨0, rfl, h1, rfl, rfl, rfl, mm, fun j _ hj => absurd hj (by omega)⟩
  clear mm
  rintro k e w9 ⟨i, hki, h1, h90, h91, h92, mm, hall⟩
  refine c_sreg rfl ?_
  refine s1 (r_lt h92 h91) ?_
  refine wn ?_
  refine c_seq ?_
  refine c_cond rfl (fun h => (c_skip (t_n ?_))) (fun h => (c_exit (t_x (t_x (b_x (t_n ?_))))))
  · have hi : i < x.es.length := by simp at h; omega
    clear h
    refine c_seq ?_
    refine c_block ?_
    refine c_sreg rfl ?_
    refine s1 (r_ix h90 h92 (by omega) (by omega) (evs_some H hi)) ?_
    refine s1 (r_ldce rfl (mm.ro H) (seg_evs x.es i hi) (evs_le x.es i hi) (by decide)) ?_
    refine so (o_al mm fun b8 w8 mm => ?_)
    refine ss (o_sta mm 1 rfl rfl rfl rfl rfl (Nat.le_of_ble_eq_true rfl) fun w9 mm => ?_)
    refine wn ?_
    refine c_sreg rfl ?_
    refine s1 (r_lda rfl (mm.b 1 rfl) rfl) ?_
    refine so (o_c1 rfl (c_may _ _) ?_)
    rintro _ w10 ⟨rfl, hc⟩
    have mm := mm.frame hc
    refine s1 (r_ne rfl rfl) ?_
    refine wn ?_
    refine c_cond rfl (fun h => ?_) (fun h => (c_skip (b_n (t_n ?_))))
    · refine c_sreg rfl ?_
      refine s1 (r_asb rfl) ?_
      refine wn ?_
      refine c_ret (ret1 rfl rfl ⟨congrArg Value.bool (?_ : false = recMay x), mm.chg⟩)
      have h9 : x.es.all (fun y => decide (evMay y = 0)) = false := by
        cases hq : x.es.all (fun y => decide (evMay y = 0)) with
        | false => rfl
        | true =>
          have := List.all_eq_true.1 hq x.es[i] (List.getElem_mem hi)
          simp at this h
          exact absurd this h
      rw [recMay_abc, h9, Bool.and_false]
    refine c_region rfl ?_
    refine s1 (r_add h92 rfl (wi (by omega) (by omega))) ?_
    refine s1 (r_mvi rfl) ?_
    refine wn (t_n ?_)
    refine ⟨k - 1, by omega, i + 1, by omega, h1, h90, h91, rfl, mm.pk [0] (by decide), ?_⟩
    intro j hj hji
    rcases Nat.lt_or_ge j i with hlt | hge
    · exact hall j hj hlt
    · obtain rfl : j = i := by omega
      simpa using h
  have hi : i = x.es.length := by simp at h; omega
  subst hi
  clear h
  refine c_sreg rfl ?_
  refine s1 (r_asb rfl) ?_
  refine wn ?_
  refine c_ret (ret1 rfl rfl ⟨congrArg Value.bool (?_ : true = recMay x), mm.chg⟩)
  have h9 : x.es.all (fun y => decide (evMay y = 0)) = true := by
    rw [List.all_eq_true]
    intro y hy
    obtain ⟨j, hj, rfl⟩ := List.mem_iff_getElem.1 hy
    exact decide_eq_true (hall j hj hj)
  rw [recMay_abc, h9, hC, hA, hB]; rfl
end Go.Proofs.Ytgdbbaggkoillaa

