/- kithref18.in, May, Put, of a record that may be: walks. -/
import Derived.Test.YtgdbbaggkoillaaSb
import Derived.Test.YtgdbbaggkoillaaRc
namespace Go.Proofs.Ytgdbbaggkoillaa
open K
set_option maxRecDepth 100000
set_option maxHeartbeats 4000000

theorem c_in18 (n : Int) (w : World) : Cl Try.prog 100 #[.int .i64 n] w (fun v w' => v = .bool (inEv n) ∧ Chg No w w') := by
  refine f_enter (args := [_]) Try.func100 rfl rfl ?_
  have mm := Mem.nil No w
  refine c_sreg rfl ?_
  refine s1 (r_asb rfl) ?_
  refine wn ?_
  refine c_sreg rfl ?_
  refine s1 (r_mvi rfl) ?_
  refine s1 (r_ge rfl rfl) ?_
  refine s1 (r_mvb rfl) ?_
  refine sT rfl rfl (fun h => r_mvi rfl) ?_
  refine sT rfl rfl (fun h => r_le (sel_t h :) rfl) ?_
  refine s1 (r_and rfl rfl) ?_
  refine s1 (r_asb rfl) ?_
  refine wn ?_
  exact c_ret (ret1 rfl rfl ⟨rfl, mm.chg⟩)
theorem inEv_of {n : Int} (h0 : 0 ≤ n) (h1 : n ≤ 1048576) : inEv n = true := by simp [inEv]; omega
theorem parts_cases {k : Int} (h : (parts k).2.2.2 = true) : k = 1 ∨ k = 2 ∨ k = 3 ∨ k = 4 ∨ k = 5 ∨ k = 6 := by have := parts_in h; omega
theorem c_may18 (x : Rec) (ok : RecOk x) {a : Option Addr} {cap : Nat} (w : World) (H : Cells w a (evsC x.es)) : Cl Try.prog 91 #[.agg (recV x a cap).toArray] w (fun v w' => v = .bool true ∧ Chg No w w') := by
  have hw : ClkW x.c := clkW_of fun i hi => by have := ok.c i hi; exact ⟨by omega, by omega⟩
  have hmost := ok.most
  refine f_enter (args := [_]) Try.func91 rfl rfl ?_
  have mm := Mem.nil No w
  refine c_sreg rfl ?_
  refine so (o_bxa mm rfl fun b2 w2 mm => ?_)
  refine s1 (r_asb rfl) ?_
  refine wn ?_
  refine c_seq ?_
  refine c_sreg rfl ?_
  refine s1 (r_fa rfl) ?_
  refine s1 (r_ld rfl (mm.b 0 rfl) rfl) ?_
  refine s1 (r_lt rfl rfl) ?_
  refine s1 (r_mvb rfl) ?_
  refine sF rfl rfl (fun h => r_fa rfl) ?_
  refine sF rfl rfl (fun h => r_ld (sel_t h :) (mm.b 0 rfl) rfl) ?_
  refine sF rfl rfl (fun h => r_gt (sel_t h :) rfl) ?_
  refine s1 (r_or rfl rfl) ?_
  refine s1 (r_mvb rfl) ?_
  refine sF rfl rfl (fun h => r_fa rfl) ?_
  refine sF rfl rfl (fun h => r_ld (sel_t h :) (mm.b 0 rfl) rfl) ?_
  refine sFw (I := Sof mm) rfl rfl mm (fun h => o_c1 (sel_t h :) (c_in18 x.upto _) (fun _ _ hh => ⟨hh.1, mm.frame hh.2⟩)) (fun w3 mm => ?_)
  refine sF rfl rfl (fun h => r_not (sel_t h :)) ?_
  refine s1 (r_or rfl rfl) ?_
  refine s1 (r_mvb rfl) ?_
  refine sF rfl rfl (fun h => r_fa rfl) ?_
  refine sF rfl rfl (fun h => r_ld (sel_t h :) (mm.b 0 rfl) rfl) ?_
  refine sF rfl rfl (fun h => r_len (sel_t h :)) ?_
  refine sF rfl rfl (fun h => r_gt (sel_t h :) rfl) ?_
  refine s1 (r_or rfl rfl) ?_
  refine wn ?_
  refine c_cond rfl (fun h => ?_) (fun h => (c_skip (t_n ?_)))
  · exfalso
    have h0 := ok.r0; have h5 := ok.r5
    rw [inEv_of ok.u0 ok.u1] at h
    simp at h
    omega
  clear h
  have mm : Mem w No _ [bk b2 (recV x a cap) 43] := mm
  refine c_seq ?_
  refine c_sreg rfl ?_
  refine s1 (r_asi rfl) ?_
  refine wn ?_
  refine c_block ?_
  refine c_loop (fun k e w' => ∃ i, k + i = 5 ∧ e 1 = .pointer (some ⟨b2, 0, none⟩) ∧ e 3 = .int .i64 (i : Nat) ∧ Mem w No w' [bk b2 (recV x a cap) 43]) 5 ?_ ?_
  · exact ⟨0, rfl, rfl, rfl, mm⟩
  clear mm
  rintro k e w9 ⟨i, hki, h1, h3, mm⟩
  refine c_seq ?_
  refine c_sreg rfl ?_
  refine s1 (r_mvi h3) ?_
  refine s1 (r_lt rfl rfl) ?_
  refine wn ?_
  refine c_cond rfl (fun h => (c_skip (t_n ?_))) (fun h => (c_exit (t_x (t_x (b_x (t_n ?_))))))
  · have hi : i < 5 := by simp at h; omega
    clear h
    have hci := ok.c i hi
    refine c_seq ?_
    refine c_block ?_
    refine c_sreg rfl ?_
    refine s1 (r_mvi h3) ?_
    refine s1 (r_fa h1) ?_
    refine s1 (r_ixa rfl rfl (by omega) (by omega)) ?_
    refine s1 (r_ld rfl (mm.b 0 rfl) (nth_rvi x a cap i hi)) ?_
    refine so (o_c1 rfl (c_in18 _ _) ?_)
    rintro _ w4 ⟨rfl, hc⟩
    have mm := mm.frame hc
    refine s1 (r_not rfl) ?_
    refine wn ?_
    refine c_cond rfl (fun h => ?_) (fun h => (c_skip (b_n (t_n ?_))))
    · exfalso
      rw [inEv_of hci.1 hci.2] at h
      cases h
    refine c_region rfl ?_
    refine s1 (r_mvi h3) ?_
    refine s1 (r_add rfl rfl (wi (by omega) (by omega))) ?_
    refine s1 (r_asi rfl) ?_
    refine wn (t_n ?_)
    exact ⟨k - 1, by omega, i + 1, by omega, h1, rfl, mm⟩
  clear h h3
  refine c_seq ?_
  refine c_sreg rfl ?_
  refine s1 (r_asi rfl) ?_
  refine wn ?_
  refine c_block ?_
  refine c_loop (fun k e w' => ∃ i, k + i = x.es.length ∧ e 1 = .pointer (some ⟨b2, 0, none⟩) ∧ e 4 = .int .i64 (i : Nat) ∧ Mem w No w' [bk b2 (recV x a cap) 43]) x.es.length ?_ ?_
  · exact ⟨0, rfl, h1, rfl, mm⟩
  clear mm h1
  rintro k e w9 ⟨i, hki, h1, h4, mm⟩
  refine c_seq ?_
  refine c_sreg rfl ?_
  refine s1 (r_mvi h4) ?_
  refine s1 (r_fa h1) ?_
  refine s1 (r_ld rfl (mm.b 0 rfl) rfl) ?_
  refine s1 (r_len rfl) ?_
  refine s1 (r_lt rfl rfl) ?_
  refine wn ?_
  refine c_cond rfl (fun h => (c_skip (t_n ?_))) (fun h => (c_exit (t_x (t_x (b_x (t_n ?_))))))
  · have hi : i < x.es.length := by simp at h; omega
    clear h
    refine c_seq ?_
    refine c_block ?_
    refine c_sreg rfl ?_
    refine s1 (r_fa h1) ?_
    refine s1 (r_ld rfl (mm.b 0 rfl) rfl) ?_
    refine s1 (r_mvi h4) ?_
    refine s1 (r_ix rfl rfl (by omega) (by omega) (evs_some H hi)) ?_
    refine s1 (r_ldce rfl (mm.ro H) (seg_evs x.es i hi) (evs_le x.es i hi) (by decide)) ?_
    refine so (o_c1 rfl (c_may6 _ _) ?_)
    rintro _ w5 ⟨rfl, hc⟩
    have mm := mm.frame hc
    refine s1 (r_ne rfl rfl) ?_
    refine wn ?_
    refine c_cond rfl (fun h => ?_) (fun h => (c_skip (b_n (t_n ?_))))
    · exfalso
      rw [ok.es _ (List.getElem_mem hi)] at h
      cases h
    refine c_region rfl ?_
    refine s1 (r_mvi h4) ?_
    refine s1 (r_add rfl rfl (wi (by omega) (by omega))) ?_
    refine s1 (r_asi rfl) ?_
    refine wn (t_n ?_)
    exact ⟨k - 1, by omega, i + 1, by omega, h1, rfl, mm⟩
  clear h h4
  refine c_sreg rfl ?_
  refine s1 (r_fa h1) ?_
  refine s1 (r_lda rfl (mm.b 0 rfl) rfl) ?_
  refine s1 (r_bd bN rfl) ?_
  refine s1 (r_eqa clk_guard (clk_eq _ _ hw clk0_w) rfl rfl) ?_
  refine s1 (r_asb rfl) ?_
  refine wn ?_
  refine c_seq ?_
  refine c_sreg rfl ?_
  refine s1 (r_fa h1) ?_
  refine s1 (r_ld rfl (mm.b 0 rfl) rfl) ?_
  refine wn ?_
  refine c_block ?_
  have hk := parts_cases ok.is
  have hpu := ok.pu; have hpc := ok.pc; have hpe := ok.pe; have hone := ok.one
  generalize hgk : x.kind = kd at *
  refine c_sreg rfl ?_
  refine s1 (r_eq (show _ = Value.int .i64 kd by rw [← hgk]; rfl) rfl) ?_
  refine s1 (r_asb rfl) ?_
  refine wn ?_
  refine c_cond rfl (fun h => ?_) (fun h => ?_)
  · have hk1 : kd = 1 := by simpa using h
    subst hk1
    have e1 : x.upto = 0 := hpu.resolve_left (by decide)
    have e2 : x.c = clk0 := hpc.resolve_left (by decide)
    have e3 : x.es.length = 1 := hone.resolve_left (by decide)
    refine c_sreg rfl ?_
    refine s1 (r_fa h1) ?_
    refine s1 (r_ld rfl (mm.b 0 rfl) rfl) ?_
    refine s1 (r_eq rfl rfl) ?_
    refine s1 (r_mvb rfl) ?_
    refine sT rfl rfl (fun h => r_mvb rfl) ?_
    refine s1 (r_and rfl rfl) ?_
    refine s1 (r_mvb rfl) ?_
    refine sT rfl rfl (fun h => r_fa h1) ?_
    refine sT rfl rfl (fun h => r_ld (sel_t h :) (mm.b 0 rfl) rfl) ?_
    refine sT rfl rfl (fun h => r_len (sel_t h :)) ?_
    refine sT rfl rfl (fun h => r_eq (sel_t h :) rfl) ?_
    refine s1 (r_and rfl rfl) ?_
    refine s1 (r_asb rfl) ?_
    refine wn ?_
    refine c_ret (ret1 rfl rfl ⟨congrArg Value.bool (?_ : _ = true), mm.chg⟩)
    simp [e1, e2, e3]
  have hk1 : kd ≠ 1 := by simpa using h
  clear h
  refine c_seq ?_
  refine c_sreg rfl ?_
  refine s1 (r_eq (show _ = Value.int .i64 kd by rw [← hgk]; rfl) rfl) ?_
  refine s1 (r_asb rfl) ?_
  refine wn ?_
  refine c_mid0 (fun e w' => e 1 = .pointer (some ⟨b2, 0, none⟩) ∧ e 5 = .bool (decide (x.c = clk0)) ∧ e 55 = .int .i64 kd ∧ e 70 = .bool (decide (kd = 2 ∨ kd = 5)) ∧ Mem w No w' [bk b2 (recV x a cap) 43]) ?_ ?_
  · refine c_cond rfl (fun h => (c_skip (t_n ?_))) (fun h => ?_)
    · have hk2 : kd = 2 := by simpa using h
      exact ⟨h1, rfl, by rw [← hgk]; rfl, by rw [hk2]; rfl, mm⟩
    · have hk2 : ¬ kd = 2 := by simpa using h
      refine c_region rfl ?_
      refine s1 (r_eq (show _ = Value.int .i64 kd by rw [← hgk]; rfl) rfl) ?_
      refine s1 (r_asb rfl) ?_
      refine wn (t_n ?_)
      refine ⟨h1, rfl, by rw [← hgk]; rfl, congrArg Value.bool ?_, mm⟩
      simp [hk2]
  clear mm h1
  rintro e w9 ⟨h1, h5, h55, h70, mm⟩
  refine c_cond h70 (fun h => ?_) (fun h => ?_)
  · have hk2 : kd = 2 ∨ kd = 5 := by simpa using h
    have e1 : x.upto = 0 := hpu.resolve_left (by rcases hk2 with rfl | rfl <;> decide)
    have e2 : x.c = clk0 := hpc.resolve_left (by rcases hk2 with rfl | rfl <;> decide)
    refine c_sreg rfl ?_
    refine s1 (r_fa h1) ?_
    refine s1 (r_ld rfl (mm.b 0 rfl) rfl) ?_
    refine s1 (r_eq rfl rfl) ?_
    refine s1 (r_mvb rfl) ?_
    refine sT rfl rfl (fun h => r_mvb h5) ?_
    refine s1 (r_and rfl rfl) ?_
    refine s1 (r_asb rfl) ?_
    refine wn ?_
    refine c_ret (ret1 rfl rfl ⟨congrArg Value.bool (?_ : _ = true), mm.chg⟩)
    simp [e1, e2]
  have hk2 : ¬ (kd = 2 ∨ kd = 5) := by simpa using h
  clear h
  refine c_sreg rfl ?_
  refine s1 (r_eq h55 rfl) ?_
  refine s1 (r_asb rfl) ?_
  refine wn ?_
  refine c_cond rfl (fun h => ?_) (fun h => ?_)
  · have hk3 : kd = 3 := by simpa using h
    subst hk3
    have e2 : x.c = clk0 := hpc.resolve_left (by decide)
    have e3 : x.es = [] := hpe.resolve_left (by decide)
    refine c_sreg rfl ?_
    refine s1 (r_mvb h5) ?_
    refine s1 (r_mvb rfl) ?_
    refine sT rfl rfl (fun h => r_fa h1) ?_
    refine sT rfl rfl (fun h => r_ld (sel_t h :) (mm.b 0 rfl) rfl) ?_
    refine sT rfl rfl (fun h => r_len (sel_t h :)) ?_
    refine sT rfl rfl (fun h => r_eq (sel_t h :) rfl) ?_
    refine s1 (r_and rfl rfl) ?_
    refine s1 (r_asb rfl) ?_
    refine wn ?_
    refine c_ret (ret1 rfl rfl ⟨congrArg Value.bool (?_ : _ = true), mm.chg⟩)
    simp [e2, e3]
  have hk3 : ¬ kd = 3 := by simpa using h
  clear h
  refine c_sreg rfl ?_
  refine s1 (r_eq h55 rfl) ?_
  refine s1 (r_asb rfl) ?_
  refine wn ?_
  refine c_cond rfl (fun h => ?_) (fun h => ?_)
  · have hk4 : kd = 4 := by simpa using h
    subst hk4
    have e2 : x.c = clk0 := hpc.resolve_left (by decide)
    refine c_sreg rfl ?_
    refine s1 (r_mvb h5) ?_
    refine s1 (r_asb rfl) ?_
    refine wn ?_
    refine c_ret (ret1 rfl rfl ⟨congrArg Value.bool (?_ : _ = true), mm.chg⟩)
    simp [e2]
  have hk4 : ¬ kd = 4 := by simpa using h
  clear h
  refine c_sreg rfl ?_
  refine s1 (r_eq h55 rfl) ?_
  refine s1 (r_asb rfl) ?_
  refine wn ?_
  refine c_cond rfl (fun h => ?_) (fun h => (c_skip (b_n (t_n ?_))))
  · have hk6 : kd = 6 := by simpa using h
    subst hk6
    have e1 : x.upto = 0 := hpu.resolve_left (by decide)
    have e3 : x.es = [] := hpe.resolve_left (by decide)
    refine c_sreg rfl ?_
    refine s1 (r_fa h1) ?_
    refine s1 (r_ld rfl (mm.b 0 rfl) rfl) ?_
    refine s1 (r_eq rfl rfl) ?_
    refine s1 (r_mvb rfl) ?_
    refine sT rfl rfl (fun h => r_fa h1) ?_
    refine sT rfl rfl (fun h => r_ld (sel_t h :) (mm.b 0 rfl) rfl) ?_
    refine sT rfl rfl (fun h => r_len (sel_t h :)) ?_
    refine sT rfl rfl (fun h => r_eq (sel_t h :) rfl) ?_
    refine s1 (r_and rfl rfl) ?_
    refine s1 (r_asb rfl) ?_
    refine wn ?_
    refine c_ret (ret1 rfl rfl ⟨congrArg Value.bool (?_ : _ = true), mm.chg⟩)
    simp [e1, e3]
  exfalso
  have hk6 : ¬ kd = 6 := by simpa using h
  omega
theorem c_put6z (x : Ev) (hx : evMay x = 0) (w : World) : Cl Try.prog 62 #[.agg (evC x).toArray] w (fun v w' => ∃ a c, v = .tuple #[.slice a (putE x).length c, .int .i64 0] ∧ Chg No w w' ∧ New w w' (own 5 1 a (putE x).length c (u8s (putE x)))) := by
  have h := c_put6 x w
  rw [if_pos hx, hx] at h
  exact h
theorem c_put18 (x : Rec) (ok : RecOk x) {a : Option Addr} {cap : Nat} (w : World) (H : Cells w a (evsC x.es)) : Cl Try.prog 73 #[.agg (recV x a cap).toArray] w
    (fun v w' => ∃ a' c', v = .tuple #[.slice a' (putR x).length c', .int .i64 0] ∧ Chg No w w' ∧ New w w' (own 5 1 a' (putR x).length c' (u8s (putR x)))) := by
  refine f_enter (args := [_]) Try.func73 rfl rfl ?_
  have mm := Mem.nil No w
  have hkin := parts_in ok.is
  refine c_sreg rfl ?_
  refine so (o_bxa mm rfl fun b2 w2 mm => ?_)
  refine s1 (r_ass rfl) ?_
  refine s1 (r_asi rfl) ?_
  refine wn ?_
  refine c_seq ?_
  refine c_sreg rfl ?_
  refine s1 (r_lda rfl (mm.b 0 rfl) rfl) ?_
  refine so (o_c1 rfl (c_may18 x ok _ (mm.ro H)) ?_)
  rintro _ w3 ⟨rfl, hc⟩
  have mm := mm.frame hc
  refine s1 (r_not rfl) ?_
  refine wn ?_
  refine c_cond rfl (fun h => ?_) (fun h => (c_skip (t_n ?_)))
  · cases h
  clear h
  refine c_sreg rfl ?_
  refine s1 (r_fa rfl) ?_
  refine s1 (r_ld rfl (mm.b 0 rfl) rfl) ?_
  refine s1 (r_cv rfl rfl) ?_
  refine s1 (r_fa rfl) ?_
  refine s1 (r_ld rfl (mm.b 0 rfl) rfl) ?_
  refine s1 (r_cv rfl rfl) ?_
  refine so (o_bi2 mm rfl rfl fun a4 c4 w4 mm => ?_)
  refine s1 (r_ass rfl) ?_
  refine wn ?_
  rw [u8_int _ (by omega), u8_int _ ok.r0] at mm
  have mm : Mem w No _ [bk b2 (recV x a cap) 43, own 5 1 a4 [UInt8.ofNat x.kind.toNat, UInt8.ofNat x.r.toNat].length c4 (u8s [UInt8.ofNat x.kind.toNat, UInt8.ofNat x.r.toNat])] := mm
  generalize hp0 : [UInt8.ofNat x.kind.toNat, UInt8.ofNat x.r.toNat] = q0 at *
  have hl0 : q0.length = 2 := by rw [← hp0]; rfl
  have hu := vput_len10 x.upto.toNat (by have := ok.u1; omega)
  generalize hp1 : q0 ++ (if (parts x.kind).1 then vput x.upto.toNat else []) = q1
  have hl1 : q1.length ≤ 12 := by rw [← hp1, List.length_append, hl0]; split <;> first | omega | (simp; done) | (simp; omega)
  have hk := parts_cases ok.is
  have hP1 : (parts x.kind).1 = decide (x.kind = 3 ∨ x.kind = 4) := by rcases hk with h | h | h | h | h | h <;> rw [h] <;> rfl
  have hP2 : (parts x.kind).2.1 = decide (x.kind = 6) := by rcases hk with h | h | h | h | h | h <;> rw [h] <;> rfl
  have hP3 : (parts x.kind).2.2.1 = (decide (x.kind ≠ 6) && decide (x.kind ≠ 3)) := by rcases hk with h | h | h | h | h | h <;> rw [h] <;> rfl
  refine c_seq ?_
  refine c_sreg rfl ?_
  refine s1 (r_fa rfl) ?_
  refine s1 (r_ld rfl (mm.b 0 rfl) rfl) ?_
  refine s1 (r_eq rfl rfl) ?_
  refine s1 (r_mvb rfl) ?_
  refine sF rfl rfl (fun h => r_fa rfl) ?_
  refine sF rfl rfl (fun h => r_ld (sel_t h :) (mm.b 0 rfl) rfl) ?_
  refine sF rfl rfl (fun h => r_eq (sel_t h :) rfl) ?_
  refine s1 (r_or rfl rfl) ?_
  refine wn ?_
  refine c_mid0 (fun e w' => ∃ ao co, e 1 = .pointer (some ⟨b2, 0, none⟩) ∧ e 4 = .slice ao q1.length co ∧ Mem w No w' [bk b2 (recV x a cap) 43, own 5 1 ao q1.length co (u8s q1)]) ?_ ?_
  · refine c_cond rfl (fun h => ?_) (fun h => (c_skip (t_n ?_)))
    · have h34 : x.kind = 3 ∨ x.kind = 4 := by simp at h; omega
      rw [hP1, if_pos (decide_eq_true h34)] at hp1
      refine c_region rfl ?_
      refine s1 (r_mvs (show _ = Value.slice a4 q0.length c4 by rw [hl0]; rfl)) ?_
      refine s1 (r_fa rfl) ?_
      refine s1 (r_ld rfl (mm.b 0 rfl) rfl) ?_
      refine s1 (r_cv rfl (wu64n ok.u0 (by have := ok.u1; omega))) ?_
      refine so (o_c1 rfl (c_vput1 x.upto.toNat (by have := ok.u1; omega) _) ?_)
      rintro _ w5 ⟨a5, c5, rfl, hc, hn⟩
      have mm := mm.new hc hn
      refine so (o_ap mm 1 rfl rfl rfl (src_own mm  2 rfl (ones_u8s _)) (by omega) (by unfold maxLen; omega) fun a6 c6 w6 mm => ?_)
      refine s1 (r_ass rfl) ?_
      refine wn (t_n ?_)
      have mm := (mm.pk [0, 1] (by decide)).castp (n' := (q0 ++ vput x.upto.toNat).length) (cs' := u8s (q0 ++ vput x.upto.toNat)) List.length_append.symm (u8s_append _ _).symm
      have hle : (q0 ++ vput x.upto.toNat).length = q0.length + (vput x.upto.toNat).length := List.length_append
      rw [hp1] at mm hle
      refine ⟨_, _, rfl, ?_, mm⟩
      rw [hle]; rfl
    · have h34 : ¬ (x.kind = 3 ∨ x.kind = 4) := by simp at h; omega
      rw [hP1, decide_eq_false h34, if_neg (by decide), List.append_nil] at hp1
      subst hp1
      exact ⟨_, _, rfl, by rw [hl0]; rfl, mm⟩
  clear mm
  rintro e w1 ⟨ao, co, h1, h4, mm⟩
  generalize hp2 : q1 ++ (if (parts x.kind).2.1 then clkB x.c 5 else []) = q2
  have hcl := clkB_len x.c ok.c 5 (Nat.le_refl _)
  have hl2 : q2.length ≤ 62 := by rw [← hp2, List.length_append]; split <;> first | omega | (simp; done) | (simp; omega)
  have hl44 := evsB_len ok.es
  have hmost := ok.most
  have hn10 := vput_len10 x.es.length (by omega)
  generalize hp3 : q2 ++ (if (parts x.kind).2.2.1 then vput x.es.length ++ evsB x.es else []) = q3
  have hl3 : q3.length ≤ 200000 := by
    rw [← hp3, List.length_append]
    split
    · rw [List.length_append]; omega
    · simp; omega
  have hbody : bodyR x = q3 := by rw [← hp3, ← hp2, ← hp1, ← hp0]; rfl
  refine c_seq ?_
  refine c_sreg rfl ?_
  refine s1 (r_fa h1) ?_
  refine s1 (r_ld rfl (mm.b 0 rfl) rfl) ?_
  refine s1 (r_eq rfl rfl) ?_
  refine wn ?_
  refine c_mid0 (fun e w' => ∃ ao co, e 1 = .pointer (some ⟨b2, 0, none⟩) ∧ e 4 = .slice ao q3.length co ∧ Mem w No w' [bk b2 (recV x a cap) 43, own 5 1 ao q3.length co (u8s q3)]) ?_ ?_
  · refine c_cond rfl (fun h => ?_) (fun h => ?_)
    · have h6 : x.kind = 6 := by simpa using h
      rw [hP2, if_pos (decide_eq_true h6)] at hp2
      rw [hP3, h6, if_neg (by decide), List.append_nil] at hp3
      subst hp3
      refine c_sreg rfl ?_
      refine s1 (r_asi rfl) ?_
      refine wn ?_
      refine c_block ?_
      refine c_loop (fun k e w' => ∃ i ao co, k + i = 5 ∧ e 1 = .pointer (some ⟨b2, 0, none⟩) ∧ e 4 = .slice ao (q1 ++ clkB x.c i).length co ∧ Mem w No w' [bk b2 (recV x a cap) 43, own 5 1 ao (q1 ++ clkB x.c i).length co (u8s (q1 ++ clkB x.c i))] ∧ e 5 = .int .i64 (i : Nat)) 5 ?_ ?_
      · refine ⟨0, ao, co, rfl, h1, ?_, ?_, rfl⟩
        · have e0 : clkB x.c 0 = [] := rfl
          rw [e0, List.append_nil]; exact h4
        · have e0 : clkB x.c 0 = [] := rfl
          rw [e0, List.append_nil]; exact mm
      clear mm h1 h4 h
      clear ao co
      rintro k e w2 ⟨i, ao, co, hki, h1, h4, mm, h5⟩
      refine c_seq ?_
      refine c_sreg rfl ?_
      refine s1 (r_mvi h5) ?_
      refine s1 (r_lt rfl rfl) ?_
      refine wn ?_
      refine c_cond rfl (fun h => (c_skip (t_n ?_))) (fun h => (c_exit (t_x (t_x (b_x (t_n ?_))))))
      · have hi : i < 5 := by simp at h; omega
        clear h
        have hci := ok.c i hi
        have hcl2 := clkB_len x.c ok.c i (by omega)
        have hv10 := vput_len10 (x.c.get i).toNat (by omega)
        have hle0 : (q1 ++ clkB x.c i).length ≤ 62 := by rw [List.length_append]; omega
        refine c_seq ?_
        refine c_block ?_
        refine c_region rfl ?_
        refine s1 (r_mvs h4) ?_
        refine s1 (r_mvi h5) ?_
        refine s1 (r_fa h1) ?_
        refine s1 (r_ixa rfl rfl (by omega) (by omega)) ?_
        refine s1 (r_ld rfl (mm.b 0 rfl) (nth_rvi x a cap i hi)) ?_
        refine s1 (r_cv rfl (wu64n hci.1 (by omega))) ?_
        refine so (o_c1 rfl (c_vput1 (x.c.get i).toNat (by omega) _) ?_)
        rintro _ w7 ⟨a7, c7, rfl, hc, hn⟩
        have mm := mm.new hc hn
        refine so (o_ap mm 1 rfl rfl rfl (src_own mm  2 rfl (ones_u8s _)) (by omega) (by unfold maxLen; omega) fun a8 c8 w8 mm => ?_)
        refine s1 (r_ass rfl) ?_
        refine wn (b_n (t_n ?_))
        have mm := (mm.pk [0, 1] (by decide)).castp (n' := (q1 ++ clkB x.c (i + 1)).length) (cs' := u8s (q1 ++ clkB x.c (i + 1))) (by rw [clkB_succ, len3]) (by rw [clkB_succ, u8s3])
        refine c_region rfl ?_
        refine s1 (r_mvi h5) ?_
        refine s1 (r_add rfl rfl (wi (by omega) (by omega))) ?_
        refine s1 (r_asi rfl) ?_
        refine wn (t_n ?_)
        refine ⟨k - 1, by omega, i + 1, _, _, by omega, h1, ?_, mm, rfl⟩
        rw [clkB_succ, len3]; rfl
      · have hi : i = 5 := by simp at h; omega
        subst hi
        rw [hp2] at mm h4
        exact ⟨_, _, h1, h4, mm⟩
    have h6 : ¬ x.kind = 6 := by simpa using h
    clear h
    rw [hP2, decide_eq_false h6, if_neg (by decide), List.append_nil] at hp2
    subst hp2
    refine c_sreg rfl ?_
    refine s1 (r_fa h1) ?_
    refine s1 (r_ld rfl (mm.b 0 rfl) rfl) ?_
    refine s1 (r_ne rfl rfl) ?_
    refine wn ?_
    refine c_cond rfl (fun h => ?_) (fun h => (c_skip (t_n ?_)))
    · have h3 : ¬ x.kind = 3 := by simpa using h
      clear h
      have hpe : (parts x.kind).2.2.1 = true := by rw [hP3, decide_eq_true h6, decide_eq_true h3]; rfl
      rw [hpe, if_pos rfl] at hp3
      refine c_sreg rfl ?_
      refine s1 (r_mvs h4) ?_
      refine s1 (r_fa h1) ?_
      refine s1 (r_ld rfl (mm.b 0 rfl) rfl) ?_
      refine s1 (r_len rfl) ?_
      refine s1 (r_cv rfl (wu64n (by omega) (by omega))) ?_
      refine so (o_c1 rfl (c_vput1 x.es.length (by omega) _) ?_)
      rintro _ w9 ⟨a9, c9, rfl, hc, hn⟩
      have mm := mm.new hc hn
      refine so (o_ap mm 1 rfl rfl rfl (src_own mm  2 rfl (ones_u8s _)) (by omega) (by unfold maxLen; omega) fun a10 c10 w10 mm => ?_)
      refine s1 (r_ass rfl) ?_
      refine wn ?_
      have mm := (mm.pk [0, 1] (by decide)).castp (n' := (q1 ++ vput x.es.length).length) (cs' := u8s (q1 ++ vput x.es.length)) List.length_append.symm (u8s_append _ _).symm
      have hle : (q1 ++ vput x.es.length).length = q1.length + (vput x.es.length).length := List.length_append
      have hq' : (q1 ++ vput x.es.length) ++ evsB x.es = q3 := by rw [← hp3, List.append_assoc]
      generalize q1 ++ vput x.es.length = q at *
      refine c_sreg rfl ?_
      refine s1 (r_asi rfl) ?_
      refine wn ?_
      refine c_block ?_
      refine c_loop (fun k e w' => ∃ i ao co, k + i = x.es.length ∧ e 1 = .pointer (some ⟨b2, 0, none⟩) ∧ e 4 = .slice ao (q ++ evsB (x.es.take i)).length co ∧ Mem w No w' [bk b2 (recV x a cap) 43, own 5 1 ao (q ++ evsB (x.es.take i)).length co (u8s (q ++ evsB (x.es.take i)))] ∧ e 6 = .int .i64 (i : Nat)) x.es.length ?_ ?_
      · refine ⟨0, a10, c10, rfl, h1, ?_, ?_, rfl⟩
        · have e0 : evsB (x.es.take 0) = [] := rfl
          rw [e0, List.append_nil, hle]; rfl
        · have e0 : evsB (x.es.take 0) = [] := rfl
          rw [e0, List.append_nil]; exact mm
      clear mm h1 h4 hc hn
      rintro k e w2 ⟨i, ao, co, hki, h1, h4, mm, h5⟩
      refine c_seq ?_
      refine c_sreg rfl ?_
      refine s1 (r_mvi h5) ?_
      refine s1 (r_fa h1) ?_
      refine s1 (r_ld rfl (mm.b 0 rfl) rfl) ?_
      refine s1 (r_len rfl) ?_
      refine s1 (r_lt rfl rfl) ?_
      refine wn ?_
      refine c_cond rfl (fun h => (c_skip (t_n ?_))) (fun h => (c_exit (t_x (t_x (b_x (t_n ?_))))))
      · have hi : i < x.es.length := by simp at h; omega
        clear h
        have hyz := ok.es x.es[i] (List.getElem_mem hi)
        have hyl := putE_le x.es[i] (evMay_ok hyz)
        have hel := evsB_len (l := x.es.take i) (fun y hy => ok.es y (List.mem_of_mem_take hy))
        rw [List.length_take] at hel
        have hel2 : (q ++ evsB (x.es.take i)).length ≤ 190000 := by rw [List.length_append]; omega
        refine c_seq ?_
        refine c_block ?_
        refine c_sreg rfl ?_
        refine s1 (r_fa h1) ?_
        refine s1 (r_ld rfl (mm.b 0 rfl) rfl) ?_
        refine s1 (r_mvi h5) ?_
        refine s1 (r_ix rfl rfl (by omega) (by omega) (evs_some H hi)) ?_
        refine s1 (r_ldce rfl (mm.ro H) (seg_evs x.es i hi) (evs_le x.es i hi) (by decide)) ?_
        refine so (o_c1 rfl (c_put6z x.es[i] hyz _) ?_)
        rintro _ w11 ⟨a11, c11, rfl, hc, hn⟩
        have mm := mm.new hc hn
        refine s1 (r_mvu rfl) ?_
        refine s1 (r_exts rfl rfl) ?_
        refine s1 (r_exti rfl rfl) ?_
        refine s1 (r_ass rfl) ?_
        refine s1 (r_asi rfl) ?_
        refine wn ?_
        refine c_region rfl ?_
        refine s1 (r_mvs h4) ?_
        refine s1 (r_mvs rfl) ?_
        refine so (o_ap mm 1 rfl rfl rfl (src_own mm 2 rfl (ones_u8s _)) (by omega) (by unfold maxLen; omega) fun a12 c12 w12 mm => ?_)
        refine s1 (r_ass rfl) ?_
        refine wn (b_n (t_n ?_))
        have mm := (mm.pk [0, 1] (by decide)).castp (n' := (q ++ evsB (x.es.take (i + 1))).length) (cs' := u8s (q ++ evsB (x.es.take (i + 1)))) (by rw [evsB_succ _ _ hi, len3]) (by rw [evsB_succ _ _ hi, u8s3])
        refine c_region rfl ?_
        refine s1 (r_mvi h5) ?_
        refine s1 (r_add rfl rfl (wi (by omega) (by omega))) ?_
        refine s1 (r_asi rfl) ?_
        refine wn (t_n ?_)
        refine ⟨k - 1, by omega, i + 1, _, _, by omega, h1, ?_, mm, rfl⟩
        rw [evsB_succ _ _ hi, len3]; rfl
      · have hi : i = x.es.length := by simp at h; omega
        subst hi
        rw [List.take_length, hq'] at mm h4
        exact ⟨_, _, h1, h4, mm⟩
    · have h3 : x.kind = 3 := by simpa using h
      rw [hP3, h3, if_neg (by decide), List.append_nil] at hp3
      subst hp3
      exact ⟨_, _, h1, h4, mm⟩
  clear mm h1 h4
  clear ao co
  rintro e w1 ⟨ao, co, h1, h4, mm⟩
  have hls := sealL_length q3
  refine c_sreg rfl ?_
  refine s1 (r_mvs h4) ?_
  refine so (o_c1 rfl (c_seal2 q3 (by omega) _ _ ⟨_, _, rfl, own_le (mm.o 1 rfl), mm.c 1 rfl⟩) ?_)
  rintro _ w13 ⟨a13, c13, rfl, hc, hn⟩
  have mm := mm.new hc hn
  refine s1 (r_ass rfl) ?_
  refine wn ?_
  have hv := vput_len10 (sealL q3).length (by omega)
  have hput : putR x = vput (sealL q3).length ++ sealL q3 := by unfold putR; rw [hbody]
  refine c_sreg rfl ?_
  refine s1 (r_mvs rfl) ?_
  refine s1 (r_len rfl) ?_
  refine s1 (r_cv rfl (wu64n (by omega) (by omega))) ?_
  refine so (o_c1 rfl (c_vput1 (sealL q3).length (by omega) _) ?_)
  rintro _ w14 ⟨a14, c14, rfl, hc, hn⟩
  have mm := mm.new hc hn
  refine s1 (r_mvs rfl) ?_
  refine so (o_ap mm  3 rfl rfl rfl (src_own mm  2 rfl (ones_u8s _)) (by omega) (by unfold maxLen; omega) fun a15 c15 w15 mm => ?_)
  refine s1 (r_ass rfl) ?_
  refine s1 (r_asi rfl) ?_
  refine wn ?_
  rw [← u8s_append] at mm
  rw [hput, List.length_append]
  exact c_ret (ret2 rfl rfl rfl ⟨_, _, rfl, mm.chg, mm.isNew 3 rfl⟩)
end Go.Proofs.Ytgdbbaggkoillaa

