/- kithlaw06.EventBack: the walk. -/
import Derived.Test.YtgdbbaggkoillaaFd
namespace Go.Proofs.Ytgdbbaggkoillaa
open K
set_option maxRecDepth 100000
set_option maxHeartbeats 4000000

theorem c_eBack (x : Ev) (hk : EvOk x) (s : List UInt8) (hs44 : s.length ≤ 80) (v : Value) (w : World) (hs : Sl w v (putE x ++ s)) : Cl Try.prog 24 #[v] w (fun r w' => r = .tuple #[.agg (evC x).toArray, .int .i64 (putE x).length, .int .i64 0] ∧ Chg No w w') := by
  have h44 := putE_le x hk
  have h := c_eTake (putE x ++ s) (by rw [List.length_append]; omega) v w hs
  rw [takeE_put x hk s] at h
  exact h
theorem Sl.cast {w : World} {a : Option Addr} {n c : Nat} {b : List UInt8} (hn : n = b.length) (hc : n ≤ c) (h : Cells w a (u8s b)) : Sl w (.slice a n c) b := by
  subst hn; exact ⟨a, c, rfl, hc, h⟩

theorem evMay_of {x : Ev} (hk : EvOk x) : evMay x = 0 := by
  have hh : evHead x = true := by
    simp only [evHead, Bool.and_eq_true, decide_eq_true_eq]
    exact ⟨⟨⟨⟨⟨⟨⟨hk.r0, hk.r5⟩, hk.n1⟩, hk.n2⟩, hk.own⟩, hk.h1⟩, hk.h2⟩, (Clk.all_iff _ _).2 fun i hi => by have := hk.c i hi; simp [inEv]; omega⟩
  refine (if_pos hh).trans ?_
  have hk1 := hk.k1
  have hk5 := hk.k5
  have h1 : tKey x.key = 0 := if_pos (by simp only [keyOk, Bool.and_eq_true, decide_eq_true_eq]; exact ⟨⟨hk.key1, hk.key8⟩, hk.keya⟩)
  refine (if_neg (show ¬ (x.kind < 1 ∨ 5 < x.kind) by omega)).trans ?_
  refine (if_neg (show ¬ tKey x.key ≠ 0 by rw [h1]; decide)).trans ?_
  by_cases hb : x.kind ≤ 2
  · refine (if_pos (show x.kind ≤ 2 from hb)).trans ?_
    refine (if_neg (show ¬ x.label ≠ 0 by rw [(hk.bare hb).1]; decide)).trans ?_
    exact if_neg (show ¬ x.val ≠ [] by rw [(hk.bare hb).2]; decide)
  · refine (if_neg (show ¬ x.kind ≤ 2 from hb)).trans ?_
    have h2 : tLabel x.label = 0 := if_pos ⟨hk.l0, hk.l2⟩
    exact (if_neg (show ¬ tLabel x.label ≠ 0 by rw [h2]; decide)).trans (if_pos ⟨hk.v1 (by omega), hk.v12⟩)
theorem c_EventBack (a : Ev) (ha : EvIn a) (ba : List UInt8) (v1 : Value) (h1 : ba.length < 2 ^ 47) (bb : List UInt8) (v2 : Value) (h2 : bb.length < 2 ^ 47) (w : World) (g1 : Sl w v1 ba) (g2 : Sl w v2 bb) :
    Cl Try.prog 6 #[.agg (evC a).toArray, v1, v2] w (fun v w' => v = .bool true ∧ Chg No w w') := by
  have hs1 := g1
  have hs2 := g2
  obtain ⟨a1, c1, rfl, hc1, H1⟩ := g1
  obtain ⟨a2, c2, rfl, hc2, H2⟩ := g2
  refine f_enter (args := [_, _, _]) Try.func6 rfl rfl ?_
  have mm := Mem.nil No w
  have hxz := fitEv_ok a
  have l1 : (ba.take 80).length ≤ 80 := by rw [List.length_take]; omega
  have l2 : (bb.take 80).length ≤ 80 := by rw [List.length_take]; omega
  refine c_sreg rfl ?_
  refine so (o_bxa mm rfl fun b2 w2 mm => ?_)
  refine s1 (r_asb rfl) ?_
  refine wn ?_
  refine c_sreg rfl ?_
  refine so (o_c0 (c_shown6 _) ?_)
  rintro _ w3 ⟨rfl, hc⟩
  have mm := mm.frame hc
  refine s1 (r_asb rfl) ?_
  refine wn ?_
  refine c_sreg rfl ?_
  refine s1 (r_lda rfl (mm.b 0 rfl) rfl) ?_
  refine so (o_c1 rfl (c_fit6 a ha _) ?_)
  rintro _ w4 ⟨rfl, hc⟩
  have mm := mm.frame hc
  refine so (o_al mm fun b5 w5 mm => ?_)
  refine ss (o_sta mm 1 rfl rfl rfl rfl rfl (Nat.le_of_ble_eq_true rfl) fun w6 mm => ?_)
  refine wn ?_
  generalize hxe : fitEv a = x at *
  have hx := evMay_ok hxz
  have lx := putE_le x hx
  have mm := mm.pk [1] (by decide)
  refine c_sreg rfl ?_
  refine s1 (r_lda rfl (mm.b 0 rfl) rfl) ?_
  refine so (o_c1 rfl (c_ePut0 x hxz _ rfl _) ?_)
  rintro _ w7 ⟨a7, c7, rfl, hc, hn⟩
  have mm := mm.new hc hn
  refine s1 (r_mvu rfl) ?_
  refine s1 (r_exts rfl rfl) ?_
  refine s1 (r_exti rfl rfl) ?_
  refine s1 (r_ass rfl) ?_
  refine s1 (r_asi rfl) ?_
  refine wn ?_
  have mm : Mem w No w7 [bk b5 (evC x) 25, own 5 1 a7 (putE x).length c7 (u8s (putE x))] := mm
  refine c_sreg rfl ?_
  refine so (o_bs0 mm fun a8 c8 w8 mm => ?_)
  refine s1 (r_mvs rfl) ?_
  refine so (o_ap mm 2 rfl rfl rfl (src_own mm 1 rfl (ones_u8s _)) (by omega) (by unfold maxLen; omega) fun a9 c9 w9 mm => ?_)
  refine s1 (r_mvs rfl) ?_
  refine so (o_c1 rfl (c_few w ba _ _ hs1) ?_)
  rintro _ w10 ⟨⟨af, cf, rfl, hcf, HF⟩, hc⟩
  have mm := mm.frame hc
  refine so (o_ap mm 2 rfl rfl rfl (src_cells (n := (ba.take 80).length) (mm.ro HF) (by rw [u8s_length]; omega) (ones_u8s _) (by decide)) (by omega) (by unfold maxLen; omega) fun a11 c11 w11 mm => ?_)
  refine so (o_c1 rfl (c_eBack x hx (ba.take 80) l1 _ _ (Sl.cast (by rw [List.length_append]; omega) (own_le (mm.o 2 rfl)) (by rw [u8s_append]; exact mm.c 2 rfl))) ?_)
  rintro _ w12 ⟨rfl, hc⟩
  have mm := mm.frame hc
  refine s1 (r_mvu rfl) ?_
  refine s1 (r_extg rfl rfl) ?_
  refine s1 (r_exti rfl rfl) ?_
  refine s1 (r_exti rfl rfl) ?_
  refine so (o_al mm fun b13 w13 mm => ?_)
  refine ss (o_sta mm 3 rfl rfl rfl rfl rfl (Nat.le_of_ble_eq_true rfl) fun w14 mm => ?_)
  refine s1 (r_asi rfl) ?_
  refine s1 (r_asi rfl) ?_
  refine wn ?_
  have mm := mm.pk [0, 1, 3] (by decide)
  have hany := takeE_any (bb.take 80)
  have h23 := takeE_23 (bb.take 80)
  refine c_sreg rfl ?_
  refine s1 (r_mvs rfl) ?_
  refine so (o_c1 rfl (c_few w bb _ _ hs2) ?_)
  rintro _ w15 ⟨⟨ag, cg, rfl, hcg, HG⟩, hc⟩
  have mm := mm.frame hc
  refine s1 (r_ass rfl) ?_
  refine wn ?_
  refine c_sreg rfl ?_
  refine s1 (r_mvs rfl) ?_
  refine so (o_c1 rfl (c_eTake (bb.take 80) (by omega) _ _ ⟨ag, cg, rfl, hcg, mm.ro HG⟩) ?_)
  rintro _ w16 ⟨rfl, hc⟩
  have mm := mm.frame hc
  refine s1 (r_mvu rfl) ?_
  refine s1 (r_extg rfl rfl) ?_
  refine s1 (r_exti rfl rfl) ?_
  refine s1 (r_exti rfl rfl) ?_
  refine so (o_al mm fun b17 w17 mm => ?_)
  refine ss (o_sta mm 3 rfl rfl rfl rfl rfl (Nat.le_of_ble_eq_true rfl) fun w18 mm => ?_)
  refine s1 (r_asi rfl) ?_
  refine s1 (r_asi rfl) ?_
  refine wn ?_
  generalize takeE (bb.take 80) = t at *
  obtain ⟨z, m, er⟩ := t
  dsimp only at *
  have mm : Mem w No w18 [bk b5 (evC x) 25, own 5 1 a7 (putE x).length c7 (u8s (putE x)), bk b13 (evC x) 25, bk b17 (evC z) 25] := mm
  refine c_seq ?_
  refine c_sreg rfl ?_
  refine s1 (r_mvi rfl) ?_
  refine s1 (r_eq rfl rfl) ?_
  refine wn ?_
  refine c_mid0 (fun e w' => e 7 = .bool true ∧ e 8 = .pointer (some ⟨b5, 0, none⟩) ∧ e 9 = .slice a7 (putE x).length c7 ∧ e 10 = .int .i64 0 ∧ e 11 = .pointer (some ⟨b13, 0, none⟩) ∧ e 12 = .int .i64 (putE x).length ∧ e 13 = .int .i64 0 ∧ e 15 = .pointer (some ⟨b17, 0, none⟩) ∧ e 16 = .int .i64 m ∧ e 17 = .int .i64 er ∧ Mem w No w' [bk b5 (evC x) 25, own 5 1 a7 (putE x).length c7 (u8s (putE x)), bk b13 (evC x) 25, bk b17 (evC z) 25]) ?_ ?_
  · refine c_cond rfl (fun h => ?_) (fun h => (c_skip (t_n ?_)))
    · have hz : er = 0 := by simpa using h
      have hz2 := hany.resolve_right (fun hh => hh.1 hz)
      obtain ⟨_, hok, hm, hml, htk⟩ := hz2
      have hmz := evMay_of hok
      have lz := putE_le z hok
      refine c_sreg rfl ?_
      refine s1 (r_lda rfl (mm.b 3 rfl) rfl) ?_
      refine so (o_c1 rfl (c_ePut0 z hmz _ rfl _) ?_)
      rintro _ w19 ⟨a19, c19, rfl, hc, hn⟩
      have mm := mm.new hc hn
      refine s1 (r_mvu rfl) ?_
      refine s1 (r_exts rfl rfl) ?_
      refine s1 (r_exti rfl rfl) ?_
      refine s1 (r_ass rfl) ?_
      refine s1 (r_asi rfl) ?_
      refine wn ?_
      subst hm
      subst hz
      refine c_sdraw mixed [(0, true), (1, true), (2, true), (3, true), (4, true), (5, true), (6, true), (7, true), (8, true), (9, true), (10, true), (11, true), (12, true), (13, true), (14, true), (15, true), (16, true), (17, true), (18, true), (19, true), (20, true), (21, true), (22, true)] [true, true, true, true, true, true, true, true, true, true, true, true, true, true, true, true, true, true, true, true, true, true, true] (Sof mm) (by kernel_rfl) rfl rfl (by kernel_rfl) (fun w20 hc => ?_)
      have mm := mm.frame hc
      refine p1 rfl (fun w m => r_mvi rfl) mm ?_
      refine p1 rfl (fun w m => r_ne rfl rfl) mm ?_
      refine p1 rfl (fun w m => r_mvb rfl) mm ?_
      refine pF rfl rfl rfl (fun h w m => r_mvi rfl) mm ?_
      refine pF rfl rfl rfl (fun h w m => r_mvs rfl) mm ?_
      refine pF rfl rfl rfl (fun h w m => r_len (sel_t h :)) mm ?_
      refine pF rfl rfl rfl (fun h w m => r_ne (sel_t h :) (sel_t h :)) mm ?_
      refine p1 rfl (fun w m => r_or rfl rfl) mm ?_
      refine p1 rfl (fun w m => r_mvb rfl) mm ?_
      refine pF rfl rfl rfl (fun h w m => r_mvi rfl) mm ?_
      refine pF rfl rfl rfl (fun h w m => r_mvs rfl) mm ?_
      refine pF rfl rfl rfl (fun h w m => r_len (sel_t h :)) mm ?_
      refine pF rfl rfl rfl (fun h w m => r_gt (sel_t h :) (sel_t h :)) mm ?_
      refine p1 rfl (fun w m => r_or rfl rfl) mm ?_
      refine p1 rfl (fun w m => r_mvb rfl) mm ?_
      refine pF rfl rfl rfl (fun h w m => r_mvs rfl) mm ?_
      refine pF rfl rfl rfl (fun h w m => r_b2s (sel_t h :) (m.c 4 rfl) rfl) mm ?_
      refine pF rfl rfl rfl (fun h w m => r_mvs rfl) mm ?_
      refine pF rfl rfl rfl (fun h w m => r_mvi rfl) mm ?_
      refine pF rfl rfl rfl (fun h w m => r_slh (sel_t h :) (sel_t h :) (by omega) (by omega)) mm ?_
      refine pF rfl rfl rfl (fun h w m => r_b2s (sel_t h :) (m.ro (HG.takeb (putE z).length)) (by rw [List.length_take]; omega)) mm ?_
      refine pF rfl rfl rfl (fun h w m => r_sne (sel_t h :) (sel_t h :)) mm ?_
      refine p1 rfl (fun w m => r_or rfl rfl) mm ?_
      refine pn ?_
      refine c_cond rfl (fun h => ?_) (fun h => (c_skip (t_n ?_)))
      · exfalso
        rw [htk] at h
        have e1 : decide (((putE z).length : Int) ≠ ((putE z).length : Int)) = false := by simp
        have e2 : decide (((bb.take 80).length : Int) < ((putE z).length : Int)) = false := by simp only [decide_eq_false_iff_not]; omega
        simp only [e1, e2, sel, ne_eq, not_true_eq_false, decide_false, Bool.or_self, Bool.false_or, Bool.or_false] at h
        cases h
      refine ⟨rfl, rfl, rfl, rfl, rfl, rfl, rfl, rfl, rfl, rfl, ?_⟩
      exact mm.pk [0, 1, 2, 3] (by decide)
    · exact ⟨rfl, rfl, rfl, rfl, rfl, rfl, rfl, rfl, rfl, rfl, mm⟩
  clear mm hc hn
  rintro e w9 ⟨h7, h8, h9, h10, h11, h12, h13, h15, h16, h17, mm⟩
  have wz : EvW z := by
    rcases hany with hh | hh
    · exact evW_of hh.2.1
    · rw [hh.2.1]; exact evW_Z
  refine c_sreg rfl ?_
  refine s1 (r_mvb h7) ?_
  refine s1 (r_mvb rfl) ?_
  refine sT rfl rfl (fun h => r_mvi h10) ?_
  refine sT rfl rfl (fun h => r_eq (sel_t h :) rfl) ?_
  refine s1 (r_and rfl rfl) ?_
  refine s1 (r_mvb rfl) ?_
  refine sT rfl rfl (fun h => r_mvi h13) ?_
  refine sT rfl rfl (fun h => r_eq (sel_t h :) rfl) ?_
  refine s1 (r_and rfl rfl) ?_
  refine s1 (r_mvb rfl) ?_
  refine sT rfl rfl (fun h => r_lda h11 (mm.b 2 rfl) rfl) ?_
  refine sT rfl rfl (fun h => r_lda h8 (mm.b 0 rfl) rfl) ?_
  refine sT rfl rfl (fun h => r_eqa ev_guard (ev_eq _ _ (evW_of hx) (evW_of hx)) (sel_t h :) (sel_t h :)) ?_
  refine s1 (r_and rfl rfl) ?_
  refine s1 (r_mvb rfl) ?_
  refine sT rfl rfl (fun h => r_mvi h12) ?_
  refine sT rfl rfl (fun h => r_mvs h9) ?_
  refine sT rfl rfl (fun h => r_len (sel_t h :)) ?_
  refine sT rfl rfl (fun h => r_eq (sel_t h :) (sel_t h :)) ?_
  refine s1 (r_and rfl rfl) ?_
  refine s1 (r_mvb rfl) ?_
  refine sT rfl rfl (fun h => r_mvi h12) ?_
  refine sT rfl rfl (fun h => r_le (sel_t h :) rfl) ?_
  refine s1 (r_and rfl rfl) ?_
  refine s1 (r_mvb rfl) ?_
  refine sT rfl rfl (fun h => r_mvi h17) ?_
  refine sT rfl rfl (fun h => r_eq (sel_t h :) rfl) ?_
  refine sT rfl rfl (fun h => r_mvb (sel_t h :)) ?_
  refine sFs rfl rfl (fun h => r_mvi h17) ?_
  refine sFs rfl rfl (fun h => r_eq (sel_t h :) rfl) ?_
  refine sFs rfl rfl (fun h => r_mvb (sel_t h :)) ?_
  refine sFs rfl rfl (fun h => r_mvi h17) ?_
  refine sFs rfl rfl (fun h => r_eq (sel_t h :) rfl) ?_
  refine sFs rfl rfl (fun h => r_or (sel_t h :) (sel_and h :)) ?_
  refine sFs rfl rfl (fun h => r_mvb (sel_t h :)) ?_
  refine sTs rfl rfl (fun h => r_mvi h16) ?_
  refine sTs rfl rfl (fun h => r_eq (sel_t h :) rfl) ?_
  refine sFs rfl rfl (fun h => r_and (sel_t h :) (sel_and h :)) ?_
  refine sFs rfl rfl (fun h => r_mvb (sel_t h :)) ?_
  refine sTs rfl rfl (fun h => r_lda h15 (mm.b 3 rfl) rfl) ?_
  refine sTs rfl rfl (fun h => r_bd bN rfl) ?_
  refine sTs rfl rfl (fun h => r_eqa ev_guard (ev_eq _ _ wz evW_Z) (sel_t h :) (sel_t h :)) ?_
  refine sFs rfl rfl (fun h => r_and (sel_t h :) (sel_and h :)) ?_
  refine sT rfl rfl (fun h => r_or (sel_t h :) (sel_and h :)) ?_
  refine s1 (r_and rfl rfl) ?_
  refine s1 (r_asb rfl) ?_
  refine wn ?_
  refine c_ret (ret1 rfl rfl ⟨congrArg Value.bool (?_ : _ = true), mm.chg⟩)
  have lx' : decide (((putE x).length : Int) ≤ 44) = true := by simp; omega
  simp only [lx', decide_true, Bool.and_true, Bool.true_and]
  rcases hany with hh | hh
  · rw [decide_eq_true hh.1]; rfl
  · rcases h23 with q | q | q
    · exact absurd q hh.1
    · rw [q, hh.2.1, hh.2.2]; rfl
    · rw [q, hh.2.1, hh.2.2]; rfl
end Go.Proofs.Ytgdbbaggkoillaa

