/- frame.Put, kithlaw07.shown: walks. -/
import Derived.Test.YtgdbbaggkoillaaFx
import Derived.Test.YtgdbbaggkoillaaRb
import Derived.Test.YtgdbbaggkoillaaKp
namespace Go.Proofs.Ytgdbbaggkoillaa
open K
set_option maxRecDepth 100000
set_option maxHeartbeats 4000000

theorem len3 {α : Type} (a b c : List α) : (a ++ (b ++ c)).length = (a ++ b).length + c.length := by rw [← List.append_assoc, List.length_append]
theorem u8s3 (a b c : List UInt8) : u8s (a ++ (b ++ c)) = u8s (a ++ b) ++ u8s c := by rw [← List.append_assoc, u8s_append (a ++ b)]
theorem K.Mem.castp {w0 w : World} {F0 : Nat → Prop} {I : It} {T : TypeId} {sz n n' c : Nat} {a : Option Addr} {cs cs' : List Value} (h : Mem w0 F0 w [I, own T sz a n c cs]) (hn : n = n') (hc : cs = cs') : Mem w0 F0 w [I, own T sz a n' c cs'] := by subst hn; subst hc; exact h
theorem nth_clkI (c : Clk) (i : Nat) (h : i < 5) : nth (clkC c) (((i : Nat) : Int).toNat) = some (.int .i64 (c.get i)) := nth_clk c i h
theorem bodyF_len {x : Rec} (ok : FrOk x) : (bodyF x).length ≤ 1000 := by
  have hl44 := evsB_len ok.es
  have hmost := ok.most
  have hcl := clkB_len x.c ok.c 5 (Nat.le_refl _)
  have hu := vput_len10 x.upto.toNat (by have := ok.u1; omega)
  unfold bodyF
  rw [List.length_append]
  have h0 : [UInt8.ofNat x.kind.toNat, UInt8.ofNat x.r.toNat].length = 2 := rfl
  rw [h0]
  split
  · omega
  · split
    · omega
    · rw [List.length_cons]; omega
theorem c_fPut (x : Rec) {a : Option Addr} {cap : Nat} (w : World) (H : Cells w a (evsC x.es)) (hw : ClkW x.c) : Cl Try.prog 30 #[.agg (recV x a cap).toArray] w
    (fun v w' => ∃ a' c', v = .tuple #[.slice a' (frPut x).length c', .int .i64 (if frMay x then 0 else 1)] ∧ Chg No w w' ∧ New w w' (own 5 1 a' (frPut x).length c' (u8s (frPut x)))) := by
  refine f_enter (args := [_]) Try.func30 rfl rfl ?_
  have mm := Mem.nil No w
  refine c_sreg rfl ?_
  refine so (o_bxa mm rfl fun b2 w2 mm => ?_)
  refine s1 (r_ass rfl) ?_
  refine s1 (r_asi rfl) ?_
  refine wn ?_
  refine c_seq ?_
  refine c_sreg rfl ?_
  refine s1 (r_lda rfl (mm.b 0 rfl) rfl) ?_
  refine so (o_c1 rfl (c_frMay x _ (mm.ro H) hw) ?_)
  rintro _ w3 ⟨rfl, hc⟩
  have mm := mm.frame hc
  refine s1 (r_not rfl) ?_
  refine wn ?_
  refine c_cond rfl (fun h => ?_) (fun h => (c_skip (t_n ?_)))
  · have hz : frMay x = false := by simpa using h
    refine c_sreg rfl ?_
    refine s1 (r_ass rfl) ?_
    refine s1 (r_asi rfl) ?_
    refine wn ?_
    have e1 : frPut x = [] := by unfold frPut; rw [hz]; rfl
    rw [e1, hz]
    have mm := mm.nilrow (T := 5) (sz := 1)
    exact c_ret (ret2 rfl rfl rfl ⟨none, 0, rfl, mm.chg, mm.isNew 1 rfl⟩)
  have hz : frMay x = true := by simpa using h
  clear h
  have ok := frMay_ok hz
  have e1 : frPut x = putF x := by unfold frPut; rw [hz]; rfl
  rw [e1, hz]
  have hkin := fHas_in ok.is
  have hbl := bodyF_len ok
  refine c_sreg rfl ?_
  refine s1 (r_fa rfl) ?_
  refine s1 (r_ld rfl (mm.b 0 rfl) rfl) ?_
  refine s1 (r_cv rfl rfl) ?_
  refine s1 (r_fa rfl) ?_
  refine s1 (r_ld rfl (mm.b 0 rfl) rfl) ?_
  refine s1 (r_cv rfl rfl) ?_
  refine so (o_bi2 mm rfl rfl fun a4 c4 w4 mm => ?_)
  refine s1 (r_ass rfl) ?_
  refine wn ?_
  rw [u8_int _ (by omega), u8_int _ ok.r0] at mm
  have mm : Mem w No _ [bk b2 (recV x a cap) 47, own 5 1 a4 [UInt8.ofNat x.kind.toNat, UInt8.ofNat x.r.toNat].length c4 (u8s [UInt8.ofNat x.kind.toNat, UInt8.ofNat x.r.toNat])] := mm
  generalize hp0 : [UInt8.ofNat x.kind.toNat, UInt8.ofNat x.r.toNat] = g0 at *
  have hl0 : g0.length = 2 := by rw [← hp0]; rfl
  refine c_seq ?_
  refine c_sreg rfl ?_
  refine s1 (r_fa rfl) ?_
  refine s1 (r_ld rfl (mm.b 0 rfl) rfl) ?_
  refine so (o_c1 rfl (c_has x.kind _) ?_)
  rintro _ w5 ⟨rfl, hc⟩
  have mm := mm.frame hc
  refine wn ?_
  generalize hB : bodyF x = B at *
  have hB' : g0 ++ (if fHas x.kind = 2 then vput x.upto.toNat else if fHas x.kind = 3 then clkB x.c 5 else UInt8.ofNat x.es.length :: evsB x.es) = B := by rw [← hB, ← hp0]; rfl
  have hu := vput_len10 x.upto.toNat (by have := ok.u1; omega)
  have hfx : ∀ (q : List UInt8) {w' : World} {a' : Option Addr} {n c' : Nat} {cs : List Value}, Mem w No w' [bk b2 (recV x a cap) 47, own 5 1 a' n c' cs] → n = q.length → cs = u8s q → Mem w No w' [bk b2 (recV x a cap) 47, own 5 1 a' q.length c' (u8s q)] := fun q _ _ _ _ _ h h1 h2 => h.castp h1 h2
  refine c_mid0 (fun e w' => ∃ ao co, e 1 = .pointer (some ⟨b2, 0, none⟩) ∧ e 4 = .slice ao B.length co ∧ Mem w No w' [bk b2 (recV x a cap) 47, own 5 1 ao B.length co (u8s B)]) ?_ ?_
  · refine c_block ?_
    refine c_sreg rfl ?_
    refine s1 (r_eq rfl rfl) ?_
    refine s1 (r_asb rfl) ?_
    refine wn ?_
    refine c_cond rfl (fun h => ?_) (fun h => ?_)
    · have h2 : fHas x.kind = 2 := by simpa using h
      rw [if_pos h2] at hB'
      refine c_region rfl ?_
      refine s1 (r_mvs (show _ = Value.slice a4 g0.length c4 by rw [hl0]; rfl)) ?_
      refine s1 (r_fa rfl) ?_
      refine s1 (r_ld rfl (mm.b 0 rfl) rfl) ?_
      refine s1 (r_cv rfl (wu64n ok.u0 (by have := ok.u1; omega))) ?_
      refine so (o_c1 rfl (c_vput x.upto.toNat (by have := ok.u1; omega) _) ?_)
      rintro _ w6 ⟨a6, c6, rfl, hc, hn⟩
      have mm := mm.new hc hn
      refine so (o_ap mm 1 rfl rfl rfl (src_own mm  2 rfl (ones_u8s _)) (by omega) (by unfold maxLen; omega) fun a7 c7 w7 mm => ?_)
      refine s1 (r_ass rfl) ?_
      refine wn (b_n (t_n ?_))
      have hle : B.length = g0.length + (vput x.upto.toNat).length := by rw [← hB', List.length_append]
      have mm := hfx B (mm.pk [0, 1] (by decide)) hle.symm (by rw [← hB', u8s_append])
      refine ⟨_, _, rfl, ?_, mm⟩
      rw [hle]; rfl
    have h2 : ¬ fHas x.kind = 2 := by simpa using h
    clear h
    rw [if_neg h2] at hB'
    refine c_sreg rfl ?_
    refine s1 (r_eq rfl rfl) ?_
    refine s1 (r_asb rfl) ?_
    refine wn ?_
    refine c_cond rfl (fun h => ?_) (fun h => ?_)
    · have h3 : fHas x.kind = 3 := by simpa using h
      clear h
      rw [if_pos h3] at hB'
      refine c_sreg rfl ?_
      refine s1 (r_fa rfl) ?_
      refine s1 (r_lda rfl (mm.b 0 rfl) rfl) ?_
      refine s1 (r_mvi rfl) ?_
      refine wn ?_
      refine c_block ?_
      refine c_loop (fun k e w' => ∃ i ao co, k + i = 5 ∧ e 1 = .pointer (some ⟨b2, 0, none⟩) ∧ e 4 = .slice ao (g0 ++ clkB x.c i).length co ∧ Mem w No w' [bk b2 (recV x a cap) 47, own 5 1 ao (g0 ++ clkB x.c i).length co (u8s (g0 ++ clkB x.c i))] ∧ e 35 = .agg (clkC x.c).toArray ∧ e 36 = .int .i64 (i : Nat)) 5 ?_ ?_
      · have e0 : clkB x.c 0 = [] := rfl
        refine ⟨0, a4, c4, rfl, rfl, ?_, ?_, rfl, rfl⟩
        · rw [e0, List.append_nil, hl0]; rfl
        · rw [e0, List.append_nil]; exact mm
      clear mm
      rintro k e w2 ⟨i, ao, co, hki, h1, h4, mm, h35, h36⟩
      refine c_sreg rfl ?_
      refine s1 (r_lt h36 rfl) ?_
      refine wn ?_
      refine c_seq ?_
      refine c_cond rfl (fun h => (c_skip (t_n ?_))) (fun h => (c_exit (t_x (t_x (b_x (b_n (t_n ?_)))))))
      · have hi : i < 5 := by simp at h; omega
        clear h
        have hci := ok.c i hi
        have hcl2 := clkB_len x.c ok.c i (by omega)
        have hv10 := vput_len10 (x.c.get i).toNat (by omega)
        have hle0 : (g0 ++ clkB x.c i).length ≤ 62 := by rw [List.length_append]; omega
        refine c_seq ?_
        refine c_block ?_
        refine c_sreg rfl ?_
        refine s1 (r_ixv h35 h36 (by omega) (by omega) (nth_clkI x.c i hi)) ?_
        refine s1 (r_asi rfl) ?_
        refine wn ?_
        refine c_region rfl ?_
        refine s1 (r_mvs h4) ?_
        refine s1 (r_mvi rfl) ?_
        refine s1 (r_cv rfl (wu64n hci.1 (by omega))) ?_
        refine so (o_c1 rfl (c_vput (x.c.get i).toNat (by omega) _) ?_)
        rintro _ w8 ⟨a8, c8, rfl, hc, hn⟩
        have mm := mm.new hc hn
        refine so (o_ap mm 1 rfl rfl rfl (src_own mm  2 rfl (ones_u8s _)) (by omega) (by unfold maxLen; omega) fun a9 c9 w9 mm => ?_)
        refine s1 (r_ass rfl) ?_
        refine wn (b_n (t_n ?_))
        have mm := hfx (g0 ++ clkB x.c (i + 1)) (mm.pk [0, 1] (by decide)) (by rw [clkB_succ, len3]) (by rw [clkB_succ, u8s3])
        refine c_region rfl ?_
        refine s1 (r_add h36 rfl (wi (by omega) (by omega))) ?_
        refine s1 (r_mvi rfl) ?_
        refine wn (t_n ?_)
        refine ⟨k - 1, by omega, i + 1, _, _, by omega, h1, ?_, mm, h35, rfl⟩
        rw [clkB_succ, len3]; rfl
      · have hi : i = 5 := by simp at h; omega
        subst hi
        rw [hB'] at mm h4
        exact ⟨_, _, h1, h4, mm⟩
    have h3 : ¬ fHas x.kind = 3 := by simpa using h
    clear h
    rw [if_neg h3] at hB'
    have h1' : fHas x.kind = 1 := by
      rcases fHas_123 x.kind with h | h | h | h
      · exact absurd h ok.is
      · exact h
      · exact absurd h h2
      · exact absurd h h3
    have hmost := ok.most
    have hl44 := evsB_len ok.es
    refine c_sreg rfl ?_
    refine s1 (r_eq rfl rfl) ?_
    refine s1 (r_asb rfl) ?_
    refine wn ?_
    refine c_cond rfl (fun h => ?_) (fun h => (c_skip (b_n (t_n ?_))))
    · clear h
      refine c_sreg rfl ?_
      refine s1 (r_mvs (show _ = Value.slice a4 g0.length c4 by rw [hl0]; rfl)) ?_
      refine s1 (r_fa rfl) ?_
      refine s1 (r_ld rfl (mm.b 0 rfl) rfl) ?_
      refine s1 (r_len rfl) ?_
      refine s1 (r_cv rfl rfl) ?_
      refine so (o_bi1 mm rfl fun a10 c10 w10 mm => ?_)
      refine so (o_ap mm 1 rfl rfl rfl (src_own mm 2 rfl rfl) (by omega) (by unfold maxLen; omega) fun a11 c11 w11 mm => ?_)
      refine s1 (r_ass rfl) ?_
      refine wn ?_
      rw [u8_any] at mm
      have hle : (g0 ++ [UInt8.ofNat x.es.length]).length = g0.length + 1 := by rw [List.length_append]; rfl
      have mm := hfx (g0 ++ [UInt8.ofNat x.es.length]) (mm.pk [0, 1] (by decide)) hle.symm (by rw [u8s_append]; rfl)
      have hq' : g0 ++ [UInt8.ofNat x.es.length] ++ evsB x.es = B := by rw [← hB', List.append_assoc]; rfl
      generalize g0 ++ [UInt8.ofNat x.es.length] = q at *
      refine c_sreg rfl ?_
      refine s1 (r_fa rfl) ?_
      refine s1 (r_ld rfl (mm.b 0 rfl) rfl) ?_
      refine s1 (r_len rfl) ?_
      refine s1 (r_mvi rfl) ?_
      refine wn ?_
      refine c_block ?_
      refine c_loop (fun k e w' => ∃ i ao co, k + i = x.es.length ∧ e 1 = .pointer (some ⟨b2, 0, none⟩) ∧ e 4 = .slice ao (q ++ evsB (x.es.take i)).length co ∧ Mem w No w' [bk b2 (recV x a cap) 47, own 5 1 ao (q ++ evsB (x.es.take i)).length co (u8s (q ++ evsB (x.es.take i)))] ∧ e 55 = .slice a x.es.length cap ∧ e 56 = .int .i64 (x.es.length : Nat) ∧ e 57 = .int .i64 (i : Nat)) x.es.length ?_ ?_
      · have e0 : evsB (x.es.take 0) = [] := rfl
        refine ⟨0, a11, c11, rfl, rfl, ?_, ?_, rfl, rfl, rfl⟩
        · rw [e0, List.append_nil, hle]; rfl
        · rw [e0, List.append_nil]; exact mm
      clear mm
      rintro k e w2 ⟨i, ao, co, hki, h1, h4, mm, h55, h56, h57⟩
      refine c_sreg rfl ?_
      refine s1 (r_lt h57 h56) ?_
      refine wn ?_
      refine c_seq ?_
      refine c_cond rfl (fun h => (c_skip (t_n ?_))) (fun h => (c_exit (t_x (t_x (b_x (b_n (t_n ?_)))))))
      · have hi : i < x.es.length := by simp at h; omega
        clear h
        have hyz := ok.es x.es[i] (List.getElem_mem hi)
        have hyl := putE_le x.es[i] (evMay_ok hyz)
        have hel := evsB_len (l := x.es.take i) (fun y hy => ok.es y (List.mem_of_mem_take hy))
        rw [List.length_take] at hel
        have hel2 : (q ++ evsB (x.es.take i)).length ≤ 190000 := by rw [List.length_append]; omega
        refine c_seq ?_
        refine c_block ?_
        refine c_sreg rfl ?_
        refine s1 (r_ix h55 h57 (by omega) (by omega) (evs_some H hi)) ?_
        refine s1 (r_ldce rfl (mm.ro H) (seg_evs x.es i hi) (evs_le x.es i hi) (by decide)) ?_
        refine so (o_al mm fun b12 w12 mm => ?_)
        refine ss (o_sta mm 2 rfl rfl rfl rfl rfl (Nat.le_of_ble_eq_true rfl) fun w13 mm => ?_)
        refine wn ?_
        refine c_sreg rfl ?_
        refine s1 (r_lda rfl (mm.b 2 rfl) rfl) ?_
        refine so (o_c1 rfl (c_ePut0 x.es[i] hyz _ rfl _) ?_)
        rintro _ w14 ⟨a14, c14, rfl, hc, hn⟩
        have mm := mm.new hc hn
        refine s1 (r_mvu rfl) ?_
        refine s1 (r_exts rfl rfl) ?_
        refine s1 (r_exti rfl rfl) ?_
        refine s1 (r_ass rfl) ?_
        refine s1 (r_asi rfl) ?_
        refine wn ?_
        refine c_region rfl ?_
        refine s1 (r_mvs h4) ?_
        refine s1 (r_mvs rfl) ?_
        refine so (o_ap mm 1 rfl rfl rfl (src_own mm 3 rfl (ones_u8s _)) (by omega) (by unfold maxLen; omega) fun a15 c15 w15 mm => ?_)
        refine s1 (r_ass rfl) ?_
        refine wn (b_n (t_n ?_))
        have mm := hfx (q ++ evsB (x.es.take (i + 1))) (mm.pk [0, 1] (by decide)) (by rw [evsB_succ _ _ hi, len3]) (by rw [evsB_succ _ _ hi, u8s3])
        refine c_region rfl ?_
        refine s1 (r_add h57 rfl (wi (by omega) (by omega))) ?_
        refine s1 (r_mvi rfl) ?_
        refine wn (t_n ?_)
        refine ⟨k - 1, by omega, i + 1, _, _, by omega, h1, ?_, mm, h55, h56, rfl⟩
        rw [evsB_succ _ _ hi, len3]; rfl
      · have hi : i = x.es.length := by simp at h; omega
        subst hi
        rw [List.take_length, hq'] at mm h4
        exact ⟨_, _, h1, h4, mm⟩
    · exfalso
      rw [h1'] at h
      cases h
  clear mm hc
  rintro e w1 ⟨ao, co, h1, h4, mm⟩
  have hv := vput_len10 B.length (by omega)
  have hput : putF x = sealL (vput B.length ++ B) := by unfold putF; rw [hB]
  have hls := sealL_length (vput B.length ++ B)
  rw [List.length_append] at hls
  refine c_sreg rfl ?_
  refine s1 (r_mvs h4) ?_
  refine s1 (r_len rfl) ?_
  refine s1 (r_cv rfl (wu64n (by omega) (by omega))) ?_
  refine so (o_c1 rfl (c_vput B.length (by omega) _) ?_)
  rintro _ w16 ⟨a16, c16, rfl, hc, hn⟩
  have mm := mm.new hc hn
  refine s1 (r_mvs h4) ?_
  refine so (o_ap mm  2 rfl rfl rfl (src_own mm 1 rfl (ones_u8s _)) (by omega) (by unfold maxLen; omega) fun a17 c17 w17 mm => ?_)
  refine so (o_c1 rfl (c_seal (vput B.length ++ B) (by rw [List.length_append]; omega) _ _ ⟨_, _, by rw [List.length_append]; rfl, by rw [List.length_append]; exact own_le (mm.o 2 rfl), by rw [u8s_append]; exact mm.c 2 rfl⟩) ?_)
  rintro _ w18 ⟨a18, c18, rfl, hc, hn⟩
  have mm := mm.new hc hn
  refine s1 (r_ass rfl) ?_
  refine s1 (r_asi rfl) ?_
  refine wn ?_
  rw [hput]
  exact c_ret (ret2 rfl rfl rfl ⟨_, _, rfl, mm.chg, mm.isNew 3 rfl⟩)

theorem frPut_shown : frPut ⟨2, 2, 300, clk0, []⟩ = sealL [4, 2, 2, 172, 2] := by
  have h2 : vput 2 = [2] := by rw [vput]; rfl
  have h300 : vput 300 = [172, 2] := by rw [vput, if_neg (by decide)]; show _ :: vput 2 = _; rw [h2]; rfl
  have h4 : vput 4 = [4] := by rw [vput]; rfl
  have hb : bodyF ⟨2, 2, 300, clk0, []⟩ = [2, 2, 172, 2] := by
    show [UInt8.ofNat 2, UInt8.ofNat 2] ++ vput 300 = _
    rw [h300]; rfl
  show putF ⟨2, 2, 300, clk0, []⟩ = _
  unfold putF
  rw [hb]
  show sealL (vput 4 ++ _) = _
  rw [h4]; rfl
theorem c_shown07 (w : World) : Cl Try.prog 29 #[] w (fun v w' => v = .bool true ∧ Chg No w w') := by
  refine f_enter (args := []) Try.func29 rfl rfl ?_
  have mm := Mem.nil No w
  refine c_sreg rfl ?_
  refine s1 (r_asb rfl) ?_
  refine wn ?_
  have hz : frMay ⟨2, 2, 300, clk0, []⟩ = true := by decide
  refine c_sreg rfl ?_
  refine s1 (r_bd (bi rfl (bi rfl (bi rfl bN))) rfl) ?_
  refine so (o_c1 rfl (c_fPut ⟨2, 2, 300, clk0, []⟩ (a := none) (cap := 0) w (Cells.nil _ _) clk0_w) ?_)
  rintro _ w2 ⟨a2, c2, rfl, hc, hn⟩
  have mm := mm.new hc hn
  refine s1 (r_mvu rfl) ?_
  refine s1 (r_exts rfl rfl) ?_
  refine s1 (r_exti rfl rfl) ?_
  refine s1 (r_ass rfl) ?_
  refine s1 (r_asi rfl) ?_
  refine wn ?_
  refine c_sdraw2 mixed [(0, some 0), (1, some 2), (2, none), (3, none), (4, none), (5, some 0), (6, some 0), (7, some 0), (8, some 0), (9, some 0), (10, some 0), (11, some 0), (12, some 0), (13, some 0), (14, some 0), (15, some 0)] [0, 0, 2, 2, 2, 0, 0, 0, 0, 0, 0, 0, 0, 0, 0, 0] (Sof (mm.pk [0] (by decide))) (Sof (mm.pk [0] (by decide))) (fun _ h => h) (by kernel_rfl) rfl rfl (by kernel_rfl) (fun w3 hc => ?_)
  have mm := mm.frame hc
  refine q01 rfl (fun w => r_mvs rfl) ?_
  refine qA1 rfl (fun w m => r_b2s rfl (m.c 0 rfl) rfl) (mm.pk [0] (by decide)) ?_
  refine qo rfl (o_bi5 mm rfl rfl rfl rfl rfl fun a4 c4 w4 mm => ⟨(mm.pk [0] (by decide)), ?_⟩)
  refine qo rfl (o_c1 rfl (c_seal [4, 2, 2, 172, 2] (by decide) _ _ ⟨_, _, rfl, own_le (mm.o 1 rfl), mm.c 1 rfl⟩) ?_)
  rintro _ w5 ⟨a5, c5, rfl, hc, hn⟩
  have mm := mm.new hc hn
  refine ⟨(mm.pk [0] (by decide)), ?_⟩
  refine qo rfl (o_v (r_b2s rfl (mm.c  2 rfl) rfl) ⟨(mm.pk [0] (by decide)), ?_⟩)
  refine q01 rfl (fun w => r_seq rfl rfl) ?_
  refine q01 rfl (fun w => r_mvb rfl) ?_
  refine q0T rfl rfl rfl (fun h w => r_mvi rfl) ?_
  refine q0T rfl rfl rfl (fun h w => r_eq (sel_t h :) rfl) ?_
  refine q01 rfl (fun w => r_and rfl rfl) ?_
  refine q01 rfl (fun w => r_mvb rfl) ?_
  refine q0T rfl rfl rfl (fun h w => r_mvs rfl) ?_
  refine q0T rfl rfl rfl (fun h w => r_len (sel_t h :)) ?_
  refine q0T rfl rfl rfl (fun h w => r_eq (sel_t h :) rfl) ?_
  refine q01 rfl (fun w => r_and rfl rfl) ?_
  refine q01 rfl (fun w => r_asb rfl) ?_
  refine qn ?_
  refine c_ret (ret1 rfl rfl ⟨congrArg Value.bool (?_ : _ = true), mm.chg⟩)
  rw [frPut_shown, hz]
  simp [sealL_length]
end Go.Proofs.Ytgdbbaggkoillaa

