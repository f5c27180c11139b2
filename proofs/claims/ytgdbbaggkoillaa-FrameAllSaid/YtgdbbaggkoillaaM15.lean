/- kithref07.Put: the walk. -/
import Derived.Test.YtgdbbaggkoillaaM14
import Derived.Test.YtgdbbaggkoillaaM11
import Derived.Test.YtgdbbaggkoillaaM10
import Derived.Test.YtgdbbaggkoillaaM12
import Derived.Test.YtgdbbaggkoillaaM8
import Derived.Test.YtgdbbaggkoillaaM5
import Derived.Test.YtgdbbaggkoillaaM13
namespace Go.Proofs.Ytgdbbaggkoillaa
open K
set_option maxRecDepth 100000
set_option maxHeartbeats 4000000

theorem c_put6y (x : Ev) (hx : evMay x = 0) (w : World) : Cl Try.prog 62 #[.agg (evC x).toArray] w (fun v w' => ∃ a c, v = .tuple #[.slice a (putE x).length c, .int .i64 0] ∧ Chg No w w' ∧ New w w' (own 5 1 a (putE x).length c (u8s (putE x)))) := by
  have h := c_put6 x w
  rw [if_pos hx, hx] at h
  exact h
theorem c_put07 (x : Rec) {a : Option Addr} {cap : Nat} (w : World) (H : Cells w a (evsC x.es)) (hw : ClkW x.c) (hl : x.es.length ≤ 1000000000000000) : Cl Try.prog 32 #[.agg (recV x a cap).toArray] w
    (fun v w' => ∃ a' c', v = .tuple #[.slice a' (frPut x).length c', .int .i64 (if frMay x then 0 else 1)] ∧ Chg No w w' ∧ New w w' (own 5 1 a' (frPut x).length c' (u8s (frPut x)))) := by
  refine f_enter (args := [_]) Try.func32 rfl rfl ?_
  have mm := Mem.nil No w
  refine c_sreg rfl ?_
  refine so (o_bxa mm rfl fun b2 w2 mm => ?_)
  refine s1 (r_ass rfl) ?_
  refine s1 (r_asi rfl) ?_
  refine wn ?_
  refine c_seq ?_
  refine c_sreg rfl ?_
  refine s1 (r_lda rfl (mm.b 0 rfl) rfl) ?_
  refine so (o_c1 rfl (c_may07 x _ (mm.ro H) hw hl) ?_)
  rintro _ w3 ⟨rfl, hc⟩
  have mm := mm.frame hc
  refine s1 (r_not rfl) ?_
  refine wn ?_
  refine c_cond rfl (fun h => ?_) (fun h => (c_skip (t_n ?_)))
  · have hz : frMay x = false := by simpa using h
    refine c_sreg rfl ?_
    refine s1 (r_ass rfl) ?_
    refine s1 (r_asi rfl) ?_
    refine wn ?_
    have e1 : frPut x = [] := by unfold frPut; rw [hz]; rfl
    rw [e1, hz]
    have mm := mm.nilrow (T := 5) (sz := 1)
    exact c_ret (ret2 rfl rfl rfl ⟨none, 0, rfl, mm.chg, mm.isNew 1 rfl⟩)
  have hz : frMay x = true := by simpa using h
  clear h
  have ok := frMay_ok hz
  have e1 : frPut x = putF x := by unfold frPut; rw [hz]; rfl
  rw [e1, hz]
  have hkin := fHas_in ok.is
  have hbl := bodyF_len ok
  refine c_sreg rfl ?_
  refine s1 (r_fa rfl) ?_
  refine s1 (r_ld rfl (mm.b 0 rfl) rfl) ?_
  refine s1 (r_cv rfl rfl) ?_
  refine s1 (r_fa rfl) ?_
  refine s1 (r_ld rfl (mm.b 0 rfl) rfl) ?_
  refine s1 (r_cv rfl rfl) ?_
  refine so (o_bi2 mm rfl rfl fun a4 c4 w4 mm => ?_)
  refine s1 (r_ass rfl) ?_
  refine wn ?_
  rw [u8_int _ (by omega), u8_int _ ok.r0] at mm
  have mm : Mem w No _ [bk b2 (recV x a cap) 47, own 5 1 a4 [UInt8.ofNat x.kind.toNat, UInt8.ofNat x.r.toNat].length c4 (u8s [UInt8.ofNat x.kind.toNat, UInt8.ofNat x.r.toNat])] := mm
  generalize hp0 : [UInt8.ofNat x.kind.toNat, UInt8.ofNat x.r.toNat] = g0 at *
  have hl0 : g0.length = 2 := by rw [← hp0]; rfl
  refine c_seq ?_
  refine c_sreg rfl ?_
  refine s1 (r_fa rfl) ?_
  refine s1 (r_ld rfl (mm.b 0 rfl) rfl) ?_
  refine wn ?_
  generalize hB : bodyF x = B at *
  have hB' : g0 ++ (if fHas x.kind = 2 then vput x.upto.toNat else if fHas x.kind = 3 then clkB x.c 5 else UInt8.ofNat x.es.length :: evsB x.es) = B := by rw [← hB, ← hp0]; rfl
  have hu := vput_len10 x.upto.toNat (by have := ok.u1; omega)
  have hfx : ∀ (q : List UInt8) {w' : World} {a' : Option Addr} {n c' : Nat} {cs : List Value}, Mem w No w' [bk b2 (recV x a cap) 47, own 5 1 a' n c' cs] → n = q.length → cs = u8s q → Mem w No w' [bk b2 (recV x a cap) 47, own 5 1 a' q.length c' (u8s q)] := fun q _ _ _ _ _ h h1 h2 => h.castp h1 h2
  have hmost := ok.most
  have hl44 := evsB_len ok.es
  refine c_mid0 (fun e w' => ∃ ao co, e 1 = .pointer (some ⟨b2, 0, none⟩) ∧ e 4 = .slice ao B.length co ∧ Mem w No w' [bk b2 (recV x a cap) 47, own 5 1 ao B.length co (u8s B)]) ?_ ?_
  · refine c_block ?_
    refine c_sreg rfl ?_
    refine s1 (r_eq rfl rfl) ?_
    refine s1 (r_asb rfl) ?_
    refine wn ?_
    refine c_cond rfl (fun h => ?_) (fun h => ?_)
    · have hk2 : x.kind = 2 := by simpa using h
      have h2 : fHas x.kind = 2 := by rw [hk2]; rfl
      rw [if_pos h2] at hB'
      refine c_region rfl ?_
      refine s1 (r_mvs (show _ = Value.slice a4 g0.length c4 by rw [hl0]; rfl)) ?_
      refine s1 (r_fa rfl) ?_
      refine s1 (r_ld rfl (mm.b 0 rfl) rfl) ?_
      refine s1 (r_cv rfl (wu64n ok.u0 (by have := ok.u1; omega))) ?_
      refine so (o_c1 rfl (c_vput1 x.upto.toNat (by have := ok.u1; omega) _) ?_)
      rintro _ w5 ⟨a5, c5, rfl, hc, hn⟩
      have mm := mm.new hc hn
      refine so (o_ap mm 1 rfl rfl rfl (src_own mm  2 rfl (ones_u8s _)) (by omega) (by unfold maxLen; omega) fun a6 c6 w6 mm => ?_)
      refine s1 (r_ass rfl) ?_
      refine wn (b_n (t_n ?_))
      have hle : B.length = g0.length + (vput x.upto.toNat).length := by rw [← hB', List.length_append]
      have mm := hfx B (mm.pk [0, 1] (by decide)) hle.symm (by rw [← hB', u8s_append])
      refine ⟨_, _, rfl, ?_, mm⟩
      rw [hle]; rfl
    have hk2 : ¬ x.kind = 2 := by simpa using h
    clear h
    have h2 : ¬ fHas x.kind = 2 := by
      have hh : x.kind = 1 ∨ x.kind = 3 ∨ x.kind = 4 ∨ x.kind = 5 := by omega
      rcases hh with h | h | h | h <;> rw [h] <;> decide
    rw [if_neg h2] at hB'
    refine c_seq ?_
    refine c_sreg rfl ?_
    refine s1 (r_eq rfl rfl) ?_
    refine s1 (r_asb rfl) ?_
    refine wn ?_
    refine c_mid0 (fun e w' => e 1 = .pointer (some ⟨b2, 0, none⟩) ∧ e 4 = .slice a4 g0.length c4 ∧ e 55 = .bool (decide (x.kind = 3 ∨ x.kind = 5)) ∧ Mem w No w' [bk b2 (recV x a cap) 47, own 5 1 a4 g0.length c4 (u8s g0)]) ?_ ?_
    · refine c_cond rfl (fun h => (c_skip (t_n ?_))) (fun h => ?_)
      · have h3 : x.kind = 3 := of_decide_eq_true h
        refine ⟨rfl, by rw [hl0]; rfl, ?_, mm⟩
        show Value.bool (decide (x.kind = 3)) = _
        rw [h3]; rfl
      · have h3 : ¬ x.kind = 3 := of_decide_eq_false h
        refine c_region rfl ?_
        refine s1 (r_eq rfl rfl) ?_
        refine s1 (r_asb rfl) ?_
        refine wn (t_n ?_)
        refine ⟨rfl, by rw [hl0]; rfl, ?_, mm⟩
        show Value.bool (decide (x.kind = 5)) = _
        congr 1
        exact decide_eq_decide.2 ⟨.inr, fun h => h.resolve_left h3⟩
    clear mm
    rintro e w1 ⟨h1, h4, h55, mm⟩
    refine c_cond h55 (fun h => ?_) (fun h => ?_)
    · have h35 : x.kind = 3 ∨ x.kind = 5 := of_decide_eq_true h
      clear h
      have h3 : fHas x.kind = 3 := by rcases h35 with h | h <;> rw [h] <;> rfl
      rw [if_pos h3] at hB'
      refine c_sreg rfl ?_
      refine s1 (r_asi rfl) ?_
      refine wn ?_
      refine c_block ?_
      refine c_loop (fun k e w' => ∃ i ao co, k + i = 5 ∧ e 1 = .pointer (some ⟨b2, 0, none⟩) ∧ e 4 = .slice ao (g0 ++ clkB x.c i).length co ∧ Mem w No w' [bk b2 (recV x a cap) 47, own 5 1 ao (g0 ++ clkB x.c i).length co (u8s (g0 ++ clkB x.c i))] ∧ e 5 = .int .i64 (i : Nat)) 5 ?_ ?_
      · have e0 : clkB x.c 0 = [] := rfl
        refine ⟨0, a4, c4, rfl, h1, ?_, ?_, rfl⟩
        · rw [e0, List.append_nil]; exact h4
        · rw [e0, List.append_nil]; exact mm
      clear mm h1 h4
      rintro k e w2 ⟨i, ao, co, hki, h1, h4, mm, h5⟩
      refine c_seq ?_
      refine c_sreg rfl ?_
      refine s1 (r_mvi h5) ?_
      refine s1 (r_lt rfl rfl) ?_
      refine wn ?_
      refine c_cond rfl (fun h => (c_skip (t_n ?_))) (fun h => (c_exit (t_x (t_x (b_x (b_n (t_n ?_)))))))
      · have hi : i < 5 := by simp at h; omega
        clear h
        have hci := ok.c i hi
        have hcl2 := clkB_len x.c ok.c i (by omega)
        have hv10 := vput_len10 (x.c.get i).toNat (by omega)
        have hle0 : (g0 ++ clkB x.c i).length ≤ 62 := by rw [List.length_append]; omega
        have hg : nth (recV x a cap) (0 + 3 + ((i : Nat) : Int).toNat * 1) = some (.int .i64 (x.c.get i)) := by
          match i, hi with
          | 0, _ => rfl | 1, _ => rfl | 2, _ => rfl | 3, _ => rfl | 4, _ => rfl
        refine c_seq ?_
        refine c_block ?_
        refine c_region rfl ?_
        refine s1 (r_mvs h4) ?_
        refine s1 (r_mvi h5) ?_
        refine s1 (r_fa h1) ?_
        refine s1 (r_ixa rfl rfl (by omega) (by omega)) ?_
        refine s1 (r_ld rfl (mm.b 0 rfl) hg) ?_
        refine s1 (r_cv rfl (wu64n hci.1 (by omega))) ?_
        refine so (o_c1 rfl (c_vput1 (x.c.get i).toNat (by omega) _) ?_)
        rintro _ w7 ⟨a7, c7, rfl, hc, hn⟩
        have mm := mm.new hc hn
        refine so (o_ap mm 1 rfl rfl rfl (src_own mm  2 rfl (ones_u8s _)) (by omega) (by unfold maxLen; omega) fun a8 c8 w8 mm => ?_)
        refine s1 (r_ass rfl) ?_
        refine wn (b_n (t_n ?_))
        have mm := hfx (g0 ++ clkB x.c (i + 1)) (mm.pk [0, 1] (by decide)) (by rw [clkB_succ, len3]) (by rw [clkB_succ, u8s3])
        refine c_region rfl ?_
        refine s1 (r_mvi h5) ?_
        refine s1 (r_add rfl rfl (wi (by omega) (by omega))) ?_
        refine s1 (r_asi rfl) ?_
        refine wn (t_n ?_)
        refine ⟨k - 1, by omega, i + 1, _, _, by omega, h1, ?_, mm, rfl⟩
        rw [clkB_succ, len3]; rfl
      have hi : i = 5 := by simp at h; omega
      subst hi
      rw [hB'] at mm h4
      exact ⟨_, _, h1, h4, mm⟩
    have h35 : ¬ (x.kind = 3 ∨ x.kind = 5) := of_decide_eq_false h
    clear h
    have h3 : ¬ fHas x.kind = 3 := by
      have : x.kind = 1 ∨ x.kind = 4 := by omega
      rcases this with h | h <;> rw [h] <;> decide
    rw [if_neg h3] at hB'
    refine c_sreg rfl ?_
    refine s1 (r_mvs h4) ?_
    refine s1 (r_fa h1) ?_
    refine s1 (r_ld rfl (mm.b 0 rfl) rfl) ?_
    refine s1 (r_len rfl) ?_
    refine s1 (r_cv rfl rfl) ?_
    refine so (o_bi1 mm rfl fun a9 c9 w9 mm => ?_)
    refine so (o_ap mm 1 rfl rfl rfl (src_own mm 2 rfl rfl) (by omega) (by unfold maxLen; omega) fun a10 c10 w10 mm => ?_)
    refine s1 (r_ass rfl) ?_
    refine wn ?_
    rw [u8_any] at mm
    have hle : (g0 ++ [UInt8.ofNat x.es.length]).length = g0.length + 1 := by rw [List.length_append]; rfl
    have mm := hfx (g0 ++ [UInt8.ofNat x.es.length]) (mm.pk [0, 1] (by decide)) hle.symm (by rw [u8s_append]; rfl)
    have hq' : g0 ++ [UInt8.ofNat x.es.length] ++ evsB x.es = B := by rw [← hB', List.append_assoc]; rfl
    generalize g0 ++ [UInt8.ofNat x.es.length] = q at *
    refine c_sreg rfl ?_
    refine s1 (r_asi rfl) ?_
    refine wn ?_
    refine c_block ?_
    refine c_loop (fun k e w' => ∃ i ao co, k + i = x.es.length ∧ e 1 = .pointer (some ⟨b2, 0, none⟩) ∧ e 4 = .slice ao (q ++ evsB (x.es.take i)).length co ∧ Mem w No w' [bk b2 (recV x a cap) 47, own 5 1 ao (q ++ evsB (x.es.take i)).length co (u8s (q ++ evsB (x.es.take i)))] ∧ e 6 = .int .i64 (i : Nat)) x.es.length ?_ ?_
    · have e0 : evsB (x.es.take 0) = [] := rfl
      refine ⟨0, a10, c10, rfl, h1, ?_, ?_, rfl⟩
      · rw [e0, List.append_nil, hle]; rfl
      · rw [e0, List.append_nil]; exact mm
    clear mm h1 h4
    rintro k e w2 ⟨i, ao, co, hki, h1, h4, mm, h6⟩
    refine c_seq ?_
    refine c_sreg rfl ?_
    refine s1 (r_mvi h6) ?_
    refine s1 (r_fa h1) ?_
    refine s1 (r_ld rfl (mm.b 0 rfl) rfl) ?_
    refine s1 (r_len rfl) ?_
    refine s1 (r_lt rfl rfl) ?_
    refine wn ?_
    refine c_cond rfl (fun h => (c_skip (t_n ?_))) (fun h => (c_exit (t_x (t_x (b_x (b_n (t_n ?_)))))))
    · have hi : i < x.es.length := by simp at h; omega
      clear h
      have hyz := ok.es x.es[i] (List.getElem_mem hi)
      have hyl := putE_le x.es[i] (evMay_ok hyz)
      have hel := evsB_len (l := x.es.take i) (fun y hy => ok.es y (List.mem_of_mem_take hy))
      rw [List.length_take] at hel
      have hel2 : (q ++ evsB (x.es.take i)).length ≤ 190000 := by rw [List.length_append]; omega
      refine c_seq ?_
      refine c_block ?_
      refine c_sreg rfl ?_
      refine s1 (r_fa h1) ?_
      refine s1 (r_ld rfl (mm.b 0 rfl) rfl) ?_
      refine s1 (r_mvi h6) ?_
      refine s1 (r_ix rfl rfl (by omega) (by omega) (evs_some H hi)) ?_
      refine s1 (r_ldce rfl (mm.ro H) (seg_evs x.es i hi) (evs_le x.es i hi) (by decide)) ?_
      refine so (o_c1 rfl (c_put6y x.es[i] hyz _) ?_)
      rintro _ w11 ⟨a11, c11, rfl, hc, hn⟩
      have mm := mm.new hc hn
      refine s1 (r_mvu rfl) ?_
      refine s1 (r_exts rfl rfl) ?_
      refine s1 (r_exti rfl rfl) ?_
      refine s1 (r_ass rfl) ?_
      refine s1 (r_asi rfl) ?_
      refine wn ?_
      refine c_region rfl ?_
      refine s1 (r_mvs h4) ?_
      refine s1 (r_mvs rfl) ?_
      refine so (o_ap mm 1 rfl rfl rfl (src_own mm 2 rfl (ones_u8s _)) (by omega) (by unfold maxLen; omega) fun a12 c12 w12 mm => ?_)
      refine s1 (r_ass rfl) ?_
      refine wn (b_n (t_n ?_))
      have mm := hfx (q ++ evsB (x.es.take (i + 1))) (mm.pk [0, 1] (by decide)) (by rw [evsB_succ _ _ hi, len3]) (by rw [evsB_succ _ _ hi, u8s3])
      refine c_region rfl ?_
      refine s1 (r_mvi h6) ?_
      refine s1 (r_add rfl rfl (wi (by omega) (by omega))) ?_
      refine s1 (r_asi rfl) ?_
      refine wn (t_n ?_)
      refine ⟨k - 1, by omega, i + 1, _, _, by omega, h1, ?_, mm, rfl⟩
      rw [evsB_succ _ _ hi, len3]; rfl
    have hi : i = x.es.length := by simp at h; omega
    subst hi
    rw [List.take_length, hq'] at mm h4
    exact ⟨_, _, h1, h4, mm⟩
  clear mm
  rintro e w1 ⟨ao, co, h1, h4, mm⟩
  have hv := vput_len10 B.length (by omega)
  have hput : putF x = sealL (vput B.length ++ B) := by unfold putF; rw [hB]
  have hls := sealL_length (vput B.length ++ B)
  rw [List.length_append] at hls
  refine c_sreg rfl ?_
  refine s1 (r_mvs h4) ?_
  refine s1 (r_len rfl) ?_
  refine s1 (r_cv rfl (wu64n (by omega) (by omega))) ?_
  refine so (o_c1 rfl (c_vput1 B.length (by omega) _) ?_)
  rintro _ w13 ⟨a13, c13, rfl, hc, hn⟩
  have mm := mm.new hc hn
  refine s1 (r_mvs h4) ?_
  refine so (o_ap mm  2 rfl rfl rfl (src_own mm 1 rfl (ones_u8s _)) (by omega) (by unfold maxLen; omega) fun a14 c14 w14 mm => ?_)
  refine so (o_c1 rfl (c_seal2 (vput B.length ++ B) (by rw [List.length_append]; omega) _ _ ⟨_, _, by rw [List.length_append]; rfl, by rw [List.length_append]; exact own_le (mm.o 2 rfl), by rw [u8s_append]; exact mm.c 2 rfl⟩) ?_)
  rintro _ w15 ⟨a15, c15, rfl, hc, hn⟩
  have mm := mm.new hc hn
  refine s1 (r_ass rfl) ?_
  refine s1 (r_asi rfl) ?_
  refine wn ?_
  rw [hput]
  exact c_ret (ret2 rfl rfl rfl ⟨_, _, rfl, mm.chg, mm.isNew 3 rfl⟩)
end Go.Proofs.Ytgdbbaggkoillaa
/- kithref07.Take: the walk. -/
namespace Go.Proofs.Ytgdbbaggkoillaa
open K
set_option maxRecDepth 100000
set_option maxHeartbeats 4000000

theorem takeF_3 {b t : List UInt8} (hl : ¬ 2048 < b.length) (ho : openL b = some t) : (takeF b).2 = 0 ∨ takeF b = (rec0, 3) := by
  unfold takeF
  rw [if_neg hl, ho]
  simp only
  split
  · exact .inr rfl
  · split
    · exact .inr rfl
    · exact .inl rfl
/-- What takes to a frame is a frame's. -/
theorem takeF_0 {b t : List UInt8} (ho : openL b = some t) (h : (takeF b).2 = 0) : FrOk (takeF b).1 ∧ putF (takeF b).1 = b ∧ t = vput (bodyF (takeF b).1).length ++ bodyF (takeF b).1 := by
  obtain ⟨_, h1, h2⟩ := takeF_ok h
  refine ⟨frMay_ok h1, h2, ?_⟩
  rw [← h2] at ho
  unfold putF at ho
  rw [openL_seal] at ho
  cases ho; rfl
theorem c_take07 (b : List UInt8) (hb : b.length ≤ 1000000000000) (v : Value) (w : World) (hs : Sl w v b) : Cl Try.prog 35 #[v] w
    (fun r w' => ∃ a' c', r = .tuple #[.agg (recV (takeF b).1 a' c').toArray, .int .i64 (takeF b).2] ∧ Chg No w w' ∧ NewR w w' a' c' (takeF b).1.es) := by
  obtain ⟨a, c, rfl, hcc, H⟩ := hs
  refine f_enter (args := [_]) Try.func35 rfl rfl ?_
  have mm := Mem.nil No w
  refine c_sreg rfl ?_
  refine so (o_al mm fun b2 w2 mm => ?_)
  refine s1 (r_asi rfl) ?_
  refine wn ?_
  refine c_seq ?_
  refine c_sreg rfl ?_
  refine s1 (r_mvs rfl) ?_
  refine s1 (r_len rfl) ?_
  refine s1 (r_gt rfl rfl) ?_
  refine wn ?_
  refine c_cond rfl (fun h => ?_) (fun h => (c_skip (t_n ?_)))
  · have h : 2048 < b.length := by simp at h; omega
    refine c_sreg rfl ?_
    refine s1 (r_bd bN rfl) ?_
    refine ss (o_sta mm 0 rfl rfl rfl rfl rfl (Nat.le_of_ble_eq_true rfl) fun w3 mm => ?_)
    refine s1 (r_asi rfl) ?_
    refine wn ?_
    have e1 : takeF b = (rec0, 5) := by unfold takeF; rw [if_pos h]
    rw [e1]
    have mm := mm.nilrow (T := 25) (sz := 12)
    exact c_ret (retc2 rfl rfl (mm.b 0 rfl) rfl rfl ⟨none, 0, rfl, mm.chg, mm.isNew 1 rfl⟩)
  have hlen : ¬ 2048 < b.length := by simp at h; omega
  clear h
  refine c_sreg rfl ?_
  refine s1 (r_mvs rfl) ?_
  refine so (o_c1 rfl (c_open02 b hb _ _ ⟨a, c, rfl, hcc, mm.ro H⟩) ?_)
  rintro _ w4 ⟨a4, c4, rfl, hc, hn⟩
  have mm := mm.new hc hn
  refine s1 (r_mvu rfl) ?_
  refine s1 (r_exts rfl rfl) ?_
  refine s1 (r_extb rfl rfl) ?_
  refine s1 (r_ass rfl) ?_
  refine s1 (r_asb rfl) ?_
  refine wn ?_
  refine c_seq ?_
  refine c_sreg rfl ?_
  refine s1 (r_mvb rfl) ?_
  refine s1 (r_not rfl) ?_
  refine wn ?_
  refine c_cond rfl (fun h => ?_) (fun h => (c_skip (t_n ?_)))
  · refine c_sreg rfl ?_
    refine s1 (r_bd bN rfl) ?_
    refine ss (o_sta mm 0 rfl rfl rfl rfl rfl (Nat.le_of_ble_eq_true rfl) fun w5 mm => ?_)
    refine s1 (r_asi rfl) ?_
    refine wn ?_
    have e1 : takeF b = (rec0, 4) := by
      have h : openL b = none := by simpa using h
      unfold takeF
      rw [if_neg hlen, h]
    rw [e1]
    have mm := mm.nilrow (T := 25) (sz := 12)
    exact c_ret (retc2 rfl rfl (mm.b 0 rfl) rfl rfl ⟨none, 0, rfl, mm.chg, mm.isNew 2 rfl⟩)
  obtain ⟨t, ht⟩ : ∃ t, openL b = some t := by
    cases ho : openL b with
    | none => rw [ho] at h; cases h
    | some t => exact ⟨t, rfl⟩
  clear h
  have hov : openV b = t := by unfold openV; rw [ht]; rfl
  rw [hov] at mm
  have htl : t.length ≤ 2048 := by
    have := openL_some ht
    rw [this, sealL_length] at hlen
    omega
  have hT3 := takeF_3 hlen ht
  have hT0 := takeF_0 ht
  have hTp := fun x (hm : frMay x = true) => takeF_put (x := x) hm
  have hT1 : (vtake t).2.2 ≠ 0 → takeF b = (rec0, 3) := fun hv => hT3.resolve_left fun h0 => hv (by
    obtain ⟨ok, _, h1⟩ := hT0 h0
    have hbl := bodyF_len ok
    rw [h1, vtake_put10 _ (by omega)])
  have hT2 : ∀ {n k : Nat}, vtake t = (n, k, 0) → ∀ f : Rec, (∀ y, FrOk y → t.drop k = bodyF y → f = y) → ¬ (frMay f = true ∧ frPut f = b) → takeF b = (rec0, 3) := fun hv f hf hne => hT3.resolve_left fun h0 => hne (by
    obtain ⟨ok, h2, h1⟩ := hT0 h0
    have hbl := bodyF_len ok
    have hp := vtake_put10 (bodyF (takeF b).1).length (by omega) (bodyF (takeF b).1)
    rw [← h1, hv] at hp
    injection hp with _ hp
    injection hp with hp _
    have hd : t.drop (vput (bodyF (takeF b).1).length).length = bodyF (takeF b).1 := (congrArg (List.drop _) h1).trans List.drop_left
    have hfx := hf _ ok (by rw [hp]; exact hd)
    rw [hfx]
    have hm := frMay_of ok
    exact ⟨hm, by unfold frPut; rw [hm]; exact h2⟩)
  refine c_sreg rfl ?_
  refine s1 (r_mvs (show _ = Value.slice a4 t.length c4 by rw [← hov]; rfl)) ?_
  refine so (o_c1 rfl (c_take01 t (by omega) _ _ ⟨_, _, rfl, own_le (mm.o 1 rfl), mm.c 1 rfl⟩) ?_)
  rintro _ w6 ⟨n, k, cd, rfl, hcase, hc⟩
  have mm := mm.frame hc
  refine s1 (r_mvu rfl) ?_
  refine s1 (r_exti rfl rfl) ?_
  refine s1 (r_exti rfl rfl) ?_
  refine s1 (r_exti rfl rfl) ?_
  refine s1 (r_asi rfl) ?_
  refine s1 (r_asi rfl) ?_
  refine s1 (r_asi rfl) ?_
  refine wn ?_
  refine c_seq ?_
  refine c_sreg rfl ?_
  refine s1 (r_mvi rfl) ?_
  refine s1 (r_ne rfl rfl) ?_
  refine wn ?_
  refine c_cond rfl (fun h => ?_) (fun h => (c_skip (t_n ?_)))
  · have hcd : cd ≠ 0 := by simpa using h
    refine c_sreg rfl ?_
    refine s1 (r_bd bN rfl) ?_
    refine ss (o_sta mm 0 rfl rfl rfl rfl rfl (Nat.le_of_ble_eq_true rfl) fun w7 mm => ?_)
    refine s1 (r_asi rfl) ?_
    refine wn ?_
    rw [hT1 (hcase.resolve_left (fun hh => hcd hh.1)).2.2.2]
    have mm := mm.nilrow (T := 25) (sz := 12)
    exact c_ret (retc2 rfl rfl (mm.b 0 rfl) rfl rfl ⟨none, 0, rfl, mm.chg, mm.isNew 2 rfl⟩)
  have hcd : cd = 0 := by simpa using h
  clear h
  have hv : vtake t = (n, k, 0) := by
    rcases hcase with hh | hh
    · exact hh.2
    · exact absurd hcd hh.1
  have hk := (vtake_ok hv).2.2.1
  have hT2 := hT2 hv
  refine c_sreg rfl ?_
  refine s1 (r_mvs (show _ = Value.slice a4 t.length c4 by rw [← hov]; rfl)) ?_
  refine s1 (r_mvi rfl) ?_
  refine s1 (r_sll rfl rfl (by omega) (by omega)) ?_
  refine so (o_c1 rfl (c_read07 (t.drop k) (by rw [List.length_drop]; omega) _ _ (Sl.drop (mm.c 1 rfl) (own_le (mm.o 1 rfl)) k hk)) ?_)
  rintro _ w8 ⟨f, a8, c8, rfl, hcw, hel, hf, hc, hn⟩
  have mm := mm.new hc hn
  refine so (o_al mm fun b9 w9 mm => ?_)
  refine ss (o_sta mm 3 rfl rfl rfl rfl rfl (Nat.le_of_ble_eq_true rfl) fun w10 mm => ?_)
  refine wn ?_
  have hT2 := hT2 f hf
  have mm : Mem w No _ [bk b2 (recV rec0 none 0) 47, own 5 1 a4 t.length c4 (u8s t), own 25 12 a8 f.es.length c8 (evsC f.es), bk b9 (recV f a8 c8) 47] := mm
  refine c_sreg rfl ?_
  refine s1 (r_lda rfl (mm.b 3 rfl) rfl) ?_
  refine so (o_c1 rfl (c_put07 f (a := a8) (cap := c8) _ (mm.c 2 rfl) hcw (by omega)) ?_)
  rintro _ w11 ⟨a11, c11, rfl, hc, hn⟩
  have mm := mm.new hc hn
  refine s1 (r_mvu rfl) ?_
  refine s1 (r_exts rfl rfl) ?_
  refine s1 (r_exti rfl rfl) ?_
  refine s1 (r_ass rfl) ?_
  refine s1 (r_asi rfl) ?_
  refine wn ?_
  refine c_seq ?_
  refine c_sreg rfl ?_
  refine s1 (r_mvi rfl) ?_
  refine s1 (r_ne rfl rfl) ?_
  refine s1 (r_mvb rfl) ?_
  refine sF rfl rfl (fun h => r_mvs rfl) ?_
  refine sF rfl rfl (fun h => r_b2s (sel_t h :) (mm.c 4 rfl) rfl) ?_
  refine sF rfl rfl (fun h => r_mvs rfl) ?_
  refine sF rfl rfl (fun h => r_b2s (sel_t h :) (mm.ro H) rfl) ?_
  refine sF rfl rfl (fun h => r_sne (sel_t h :) (sel_t h :)) ?_
  refine s1 (r_or rfl rfl) ?_
  refine wn ?_
  refine c_cond rfl (fun h => ?_) (fun h => (c_skip (t_n ?_)))
  · have hne : ¬ (frMay f = true ∧ frPut f = b) := by
      rintro ⟨h1, h2⟩
      rw [h1, h2] at h
      simp at h
    refine c_sreg rfl ?_
    refine s1 (r_bd bN rfl) ?_
    refine ss (o_sta mm 0 rfl rfl rfl rfl rfl (Nat.le_of_ble_eq_true rfl) fun w12 mm => ?_)
    refine s1 (r_asi rfl) ?_
    refine wn ?_
    rw [hT2 hne]
    have mm := mm.nilrow (T := 25) (sz := 12)
    exact c_ret (retc2 rfl rfl (mm.b 0 rfl) rfl rfl ⟨none, 0, rfl, mm.chg, mm.isNew 5 rfl⟩)
  have hyes : frMay f = true ∧ frPut f = b := by
    cases hm : frMay f with
    | false => rw [hm] at h; simp at h
    | true =>
      rw [hm] at h
      exact ⟨rfl, by simpa using h⟩
  clear h
  have hTf : takeF b = (f, 0) := by
    have h1 := hTp f hyes.1
    have h2 : frPut f = putF f := by unfold frPut; rw [hyes.1]; rfl
    rw [← h2, hyes.2] at h1
    exact h1
  refine c_sreg rfl ?_
  refine s1 (r_lda rfl (mm.b 3 rfl) rfl) ?_
  refine ss (o_sta mm 0 rfl rfl rfl rfl rfl (Nat.le_of_ble_eq_true rfl) fun w13 mm => ?_)
  refine s1 (r_asi rfl) ?_
  refine wn ?_
  rw [hTf]
  exact c_ret (retc2 rfl rfl (mm.b 0 rfl) rfl rfl ⟨_, _, rfl, mm.chg, mm.isNew 2 rfl⟩)
end Go.Proofs.Ytgdbbaggkoillaa
/- kithref06.Same: the walk. -/
namespace Go.Proofs.Ytgdbbaggkoillaa
open K
set_option maxRecDepth 100000
set_option maxHeartbeats 4000000

def Sle (w : World) (v : Value) (l : List Ev) : Prop := ∃ a c, v = .slice a l.length c ∧ Cells w a (evsC l)
theorem c_same6 (l l' : List Ev) (hl : ∀ y ∈ l, EvW y) (hm : ∀ y ∈ l', EvW y) (hll : l.length ≤ 1000000000000000) (v u : Value) (w : World) (hs : Sle w v l) (ht : Sle w u l') : Cl Try.prog 72 #[v, u] w (fun r w' => r = .bool (decide (l = l')) ∧ Chg No w w') := by
  obtain ⟨a, c, rfl, H⟩ := hs
  obtain ⟨a', c', rfl, H'⟩ := ht
  refine f_enter (args := [_, _]) Try.func72 rfl rfl ?_
  have mm := Mem.nil No w
  refine c_sreg rfl ?_
  refine s1 (r_asb rfl) ?_
  refine wn ?_
  refine c_seq ?_
  refine c_sreg rfl ?_
  refine s1 (r_mvs rfl) ?_
  refine s1 (r_len rfl) ?_
  refine s1 (r_mvs rfl) ?_
  refine s1 (r_len rfl) ?_
  refine s1 (r_ne rfl rfl) ?_
  refine wn ?_
  refine c_cond rfl (fun h => ?_) (fun h => (c_skip (t_n ?_)))
  · refine c_sreg rfl ?_
    refine s1 (r_asb rfl) ?_
    refine wn ?_
    refine c_ret (ret1 rfl rfl ⟨congrArg Value.bool ?_, mm.chg⟩)
    refine (decide_eq_false fun hq => ?_).symm
    rw [hq] at h
    simp at h
  have hlen : l.length = l'.length := by simp at h; omega
  clear h
  refine c_seq ?_
  refine c_sreg rfl ?_
  refine s1 (r_asi rfl) ?_
  refine wn ?_
  refine c_block ?_
  refine c_loop (fun k e w' => ∃ i, k + i = l.length ∧ e 0 = .slice a l.length c ∧ e 1 = .slice a' l'.length c' ∧ e 5 = .int .i64 (i : Nat) ∧ Mem w No w' [] ∧ l.take i = l'.take i) l.length ?_ ?_
  · exact ⟨0, rfl, rfl, rfl, rfl, mm, rfl⟩
  clear mm
  rintro k e w9 ⟨i, hki, h0, h1, h5, mm, hall⟩
  refine c_seq ?_
  refine c_sreg rfl ?_
  refine s1 (r_mvi h5) ?_
  refine s1 (r_mvs h0) ?_
  refine s1 (r_len rfl) ?_
  refine s1 (r_lt rfl rfl) ?_
  refine wn ?_
  refine c_cond rfl (fun h => (c_skip (t_n ?_))) (fun h => (c_exit (t_x (t_x (b_x (t_n ?_))))))
  · have hi : i < l.length := by simp at h; omega
    clear h
    have hi' : i < l'.length := by omega
    refine c_seq ?_
    refine c_block ?_
    refine c_sdraw mixed [(0, true), (1, true), (2, true), (3, true), (4, true), (5, true), (6, true), (7, true), (8, true)] [true, true, true, true, true, true, true, true, true] (Sof mm) (by kernel_rfl) rfl rfl (by kernel_rfl) (fun w2 hc => ?_)
    have mm := mm.frame hc
    refine p1 rfl (fun w m => r_mvs h0) mm ?_
    refine p1 rfl (fun w m => r_mvi h5) mm ?_
    refine p1 rfl (fun w m => r_ix rfl rfl (by omega) (by omega) (evs_some H hi)) mm ?_
    refine p1 rfl (fun w m => r_ldce rfl (m.ro H) (seg_evs l i hi) (evs_le l i hi) (by decide)) mm ?_
    refine p1 rfl (fun w m => r_mvs h1) mm ?_
    refine p1 rfl (fun w m => r_mvi h5) mm ?_
    refine p1 rfl (fun w m => r_ix rfl rfl (by omega) (by omega) (evs_some H' hi')) mm ?_
    refine p1 rfl (fun w m => r_ldce rfl (m.ro H') (seg_evs l' i hi') (evs_le l' i hi') (by decide)) mm ?_
    refine p1 rfl (fun w m => r_nea ev_guard (ev_eq _ _ (hl _ (List.getElem_mem hi)) (hm _ (List.getElem_mem hi'))) rfl rfl) mm ?_
    refine pn ?_
    refine c_cond rfl (fun h => ?_) (fun h => (c_skip (b_n (t_n ?_))))
    · refine c_sreg rfl ?_
      refine s1 (r_asb rfl) ?_
      refine wn ?_
      refine c_ret (ret1 rfl rfl ⟨congrArg Value.bool ?_, mm.chg⟩)
      refine (decide_eq_false fun hq => ?_).symm
      subst hq
      simp at h
    have he : l[i] = l'[i] := by simpa using h
    refine c_region rfl ?_
    refine s1 (r_mvi h5) ?_
    refine s1 (r_add rfl rfl (wi (by omega) (by omega))) ?_
    refine s1 (r_asi rfl) ?_
    refine wn (t_n ?_)
    refine ⟨k - 1, by omega, i + 1, by omega, h0, h1, rfl, mm, ?_⟩
    rw [List.take_succ_eq_append_getElem hi, List.take_succ_eq_append_getElem hi', hall, he]
  · have hi : i = l.length := by simp at h; omega
    subst hi
    refine c_sreg rfl ?_
    refine s1 (r_asb rfl) ?_
    refine wn ?_
    refine c_ret (ret1 rfl rfl ⟨congrArg Value.bool ?_, mm.chg⟩)
    refine (decide_eq_true ?_).symm
    rw [List.take_length, hlen, List.take_length] at hall
    exact hall

structure RecW (x : Rec) : Prop where
  c : ClkW x.c
  es : ∀ y ∈ x.es, EvW y
  len : x.es.length ≤ 1000000000000000
theorem rec_ext {x y : Rec} (h1 : x.kind = y.kind) (h2 : x.r = y.r) (h3 : x.upto = y.upto) (h4 : x.c = y.c) (h5 : x.es = y.es) : x = y := by cases x; cases y; simp_all
end Go.Proofs.Ytgdbbaggkoillaa
/- kithlaw06.few, EventBack, EventCuts: walks. -/
namespace Go.Proofs.Ytgdbbaggkoillaa
open K
set_option maxRecDepth 100000
set_option maxHeartbeats 4000000

theorem c_few (w0 : World) (b : List UInt8) (v : Value) (w : World) (hs : Sl w0 v b) : Cl Try.prog 25 #[v] w (fun r w' => Sl w0 r (b.take 80) ∧ Chg No w w') := by
  obtain ⟨a, c, rfl, hac, H⟩ := hs
  have hmin : (min (b.length : Int) 80) = ((min b.length 80 : Nat) : Int) := by omega
  refine f_enter (args := [_]) Try.func25 rfl rfl ?_
  have mm := Mem.nil No w
  refine c_sreg rfl ?_
  refine s1 (r_ass rfl) ?_
  refine wn ?_
  refine c_sreg rfl ?_
  refine s1 (r_mvs rfl) ?_
  refine s1 (r_mvs rfl) ?_
  refine s1 (r_len rfl) ?_
  refine s1 (r_min2 rfl rfl) ?_
  refine s1 (r_slh rfl rfl (by omega) (by omega)) ?_
  refine s1 (r_ass rfl) ?_
  refine wn ?_
  refine c_ret (ret1 rfl rfl ⟨⟨a, c, ?_, ?_, H.takeb 80⟩, mm.chg⟩)
  · show Value.slice a (min (b.length : Int) 80).toNat c = _
    rw [hmin, List.length_take, Nat.min_comm]; rfl
  · rw [List.length_take]; omega

theorem Sl.own {w0 w : World} {F0 : Nat → Prop} {L : List It} (mm : Mem w0 F0 w L) (k : Nat) {a : Option Addr} {c : Nat} {b : List UInt8} (hk : nth L k = some (own 5 1 a b.length c (u8s b))) : Sl w (.slice a b.length c) b :=
  ⟨a, c, rfl, own_le (mm.o k hk), mm.c k hk⟩
def E23 (e : Int) : Prop := e = 0 ∨ e = 2 ∨ e = 3
theorem tOne_23 {l h : Int} {s : List UInt8} {e : Int} (he : E23 e) : E23 (tOne l h s e).2.2 := by
  unfold tOne
  split
  · exact he
  · split
    · exact .inr (.inl rfl)
    · show E23 (if _ then _ else _)
      split
      · exact .inr (.inr rfl)
      · exact .inl rfl
theorem tNum_23 {l h : Int} {s : List UInt8} {e : Int} (he : E23 e) : E23 (tNum l h s e).2.2 := by
  have hv := vtake_err (b := s)
  unfold tNum
  split
  · show E23 (if _ then _ else _)
    split
    · rcases hv with hv | hv | hv
      · exact .inl hv.1
      · exact .inr (.inl hv)
      · exact .inr (.inr hv)
    · exact he
  · show E23 (if _ then _ else _)
    split
    · exact .inr (.inr rfl)
    · exact .inl rfl
theorem tWords_23 {m : Int} {s : List UInt8} {e : Int} (he : E23 e) : E23 (tWords m s e).2.2 := by
  have h1 := tOne_23 (l := 1) (h := m) (s := s) he
  unfold tWords
  split
  · show E23 (if _ then _ else _)
    split
    · exact .inr (.inl rfl)
    · exact h1
  · exact h1
theorem tCtx_23 {r : Int} {s : List UInt8} {e : Int} (he : E23 e) : ∀ i, E23 (tCtx r s e i).2.2
  | 0 => he
  | i + 1 => by
    have ih := tCtx_23 (r := r) (s := s) he i
    show E23 (tStep r i (tCtx r s e i)).2.2
    unfold tStep
    split
    · exact tNum_23 ih
    · exact ih
theorem tKeyE_23 {k : List UInt8} {e : Int} (he : E23 e) : E23 (tKeyE k e) := by
  unfold tKeyE
  split
  · exact he
  · split
    · exact .inr (.inr rfl)
    · exact he
theorem f6_23 {k r n : Int} {c : Clk} {h : Int} {y : List UInt8 × List UInt8 × Int} (he : E23 y.2.2) : E23 (f6 k r n c h y).2.2 := by
  have h6 := tKeyE_23 (k := y.1) he
  unfold f6
  split
  · exact tWords_23 (tOne_23 h6)
  · exact h6
theorem takeE_23 (b : List UInt8) : E23 (takeE b).2.2 := by
  have h : E23 (takeS b).2.2 := by
    rw [takeS_f]
    unfold f1 f2 f3 f4 f5
    refine f6_23 ?_
    refine tWords_23 ?_
    refine tNum_23 ?_
    refine tCtx_23 ?_ 5
    refine tNum_23 ?_
    refine tOne_23 ?_
    exact tOne_23 (.inl rfl)
  unfold takeE takeFin
  split
  · exact h
  · exact .inl rfl
end Go.Proofs.Ytgdbbaggkoillaa
/- kithlaw06.EventCuts: the walk. -/
namespace Go.Proofs.Ytgdbbaggkoillaa
open K
set_option maxRecDepth 100000
set_option maxHeartbeats 4000000

theorem Sl.pre {w : World} {a : Option Addr} {c : Nat} {b : List UInt8} (h : Cells w a (u8s b)) (hc : b.length ≤ c) (i : Nat) (hi : i ≤ b.length) : Sl w (.slice a ((i : Int)).toNat c) (b.take i) :=
  ⟨a, c, by rw [List.length_take, Nat.min_eq_left hi]; rfl, by rw [List.length_take]; omega, h.takeb i⟩
theorem c_eCut (x : Ev) (hk : EvOk x) (i : Nat) (hi : i < (putE x).length) (v : Value) (w : World) (hs : Sl w v ((putE x).take i)) : Cl Try.prog 24 #[v] w (fun r w' => r = .tuple #[.agg (evC evZ).toArray, .int .i64 0, .int .i64 2] ∧ Chg No w w') := by
  have h44 := putE_le x hk
  have h := c_eTake ((putE x).take i) (by rw [List.length_take]; omega) v w hs
  rw [takeE_cut x hk i hi] at h
  exact h
theorem i64_small {n : Int} (h0 : -100000000 ≤ n) (h1 : n ≤ 100000000) : i64 n := ⟨by omega, by omega⟩
theorem evW_of {x : Ev} (hk : EvOk x) : EvW x := by
  have h1 := hk.k1; have h2 := hk.k5; have h3 := hk.r0; have h4 := hk.r5; have h5 := hk.n1; have h6 := hk.n2; have h7 := hk.h1; have h8 := hk.h2
  have h9 := hk.key8; have h10 := hk.v12; have h11 := hk.l0; have h12 := hk.l2
  have c0 : 0 ≤ x.c.c0 ∧ x.c.c0 ≤ 1048576 := hk.c 0 (by decide)
  have c1 : 0 ≤ x.c.c1 ∧ x.c.c1 ≤ 1048576 := hk.c 1 (by decide)
  have c2 : 0 ≤ x.c.c2 ∧ x.c.c2 ≤ 1048576 := hk.c 2 (by decide)
  have c3 : 0 ≤ x.c.c3 ∧ x.c.c3 ≤ 1048576 := hk.c 3 (by decide)
  have c4 : 0 ≤ x.c.c4 ∧ x.c.c4 ≤ 1048576 := hk.c 4 (by decide)
  exact ⟨i64_small (by omega) (by omega), i64_small (by omega) (by omega), i64_small (by omega) (by omega), i64_small (by omega) (by omega), i64_small (by omega) (by omega), i64_small (by omega) (by omega), i64_small (by omega) (by omega), i64_small (by omega) (by omega), i64_small (by omega) (by omega), by unfold maxLen; omega, i64_small (by omega) (by omega), by unfold maxLen; omega⟩
theorem evW_Z : EvW evZ := by
  refine ⟨?_, ?_, ?_, ?_, ?_, ?_, ?_, ?_, ?_, ?_, ?_, ?_⟩ <;> first | exact i64_small (by decide) (by decide) | exact Nat.zero_le _

theorem c_EventCuts (a : Ev) (ha : EvIn a) (b : Ev) (hb : EvIn b) (w : World) : Cl Try.prog 7 #[.agg (evC a).toArray, .agg (evC b).toArray] w (fun v w' => v = .bool true ∧ Chg No w w') := by
  refine f_enter (args := [_, _]) Try.func7 rfl rfl ?_
  have mm := Mem.nil No w
  have hxz := fitEv_ok a
  have hyz := fitEv_ok b
  refine c_sreg rfl ?_
  refine so (o_bxa mm rfl fun b2 w2 mm => ?_)
  refine so (o_bxa mm rfl fun b3 w3 mm => ?_)
  refine s1 (r_asb rfl) ?_
  refine wn ?_
  refine c_sreg rfl ?_
  refine so (o_c0 (c_shown6 _) ?_)
  rintro _ w4 ⟨rfl, hc⟩
  have mm := mm.frame hc
  refine s1 (r_asb rfl) ?_
  refine wn ?_
  refine c_sreg rfl ?_
  refine s1 (r_lda rfl (mm.b 0 rfl) rfl) ?_
  refine so (o_c1 rfl (c_fit6 a ha _) ?_)
  rintro _ w5 ⟨rfl, hc⟩
  have mm := mm.frame hc
  refine so (o_al mm fun b6 w6 mm => ?_)
  refine ss (o_sta mm 2 rfl rfl rfl rfl rfl (Nat.le_of_ble_eq_true rfl) fun w7 mm => ?_)
  refine wn ?_
  refine c_sreg rfl ?_
  refine s1 (r_lda rfl (mm.b 1 rfl) rfl) ?_
  refine so (o_c1 rfl (c_fit6 b hb _) ?_)
  rintro _ w8 ⟨rfl, hc⟩
  have mm := mm.frame hc
  refine so (o_al mm fun b9 w9 mm => ?_)
  refine ss (o_sta mm 3 rfl rfl rfl rfl rfl (Nat.le_of_ble_eq_true rfl) fun w10 mm => ?_)
  refine wn ?_
  generalize hxe : fitEv a = x at *
  generalize hye : fitEv b = y at *
  have hx := evMay_ok hxz
  have hy := evMay_ok hyz
  have lx := putE_le x hx
  have ly := putE_le y hy
  have mm := mm.pk [2, 3] (by decide)
  have mm : Mem w No w10 [bk b6 (evC x) 25, bk b9 (evC y) 25] := mm
  refine c_sreg rfl ?_
  refine s1 (r_lda rfl (mm.b 0 rfl) rfl) ?_
  refine so (o_c1 rfl (c_ePut0 x hxz _ rfl _) ?_)
  rintro _ w11 ⟨a11, c11, rfl, hc, hn⟩
  have mm := mm.new hc hn
  refine s1 (r_mvu rfl) ?_
  refine s1 (r_exts rfl rfl) ?_
  refine s1 (r_exti rfl rfl) ?_
  refine s1 (r_ass rfl) ?_
  refine s1 (r_asi rfl) ?_
  refine wn ?_
  refine c_sreg rfl ?_
  refine s1 (r_lda rfl (mm.b 1 rfl) rfl) ?_
  refine so (o_c1 rfl (c_ePut0 y hyz _ rfl _) ?_)
  rintro _ w12 ⟨a12, c12, rfl, hc, hn⟩
  have mm := mm.new hc hn
  refine s1 (r_mvu rfl) ?_
  refine s1 (r_exts rfl rfl) ?_
  refine s1 (r_exti rfl rfl) ?_
  refine s1 (r_ass rfl) ?_
  refine s1 (r_asi rfl) ?_
  refine wn ?_
  refine c_seq ?_
  refine c_sreg rfl ?_
  refine s1 (r_mvb rfl) ?_
  refine s1 (r_not rfl) ?_
  refine s1 (r_mvb rfl) ?_
  refine sF rfl rfl (fun h => r_mvi rfl) ?_
  refine sF rfl rfl (fun h => r_ne (sel_t h :) rfl) ?_
  refine s1 (r_or rfl rfl) ?_
  refine s1 (r_mvb rfl) ?_
  refine sF rfl rfl (fun h => r_mvi rfl) ?_
  refine sF rfl rfl (fun h => r_ne (sel_t h :) rfl) ?_
  refine s1 (r_or rfl rfl) ?_
  refine wn ?_
  refine c_cond rfl (fun h => ?_) (fun h => (c_skip (t_n ?_)))
  · cases h
  clear h
  refine c_seq ?_
  refine c_sreg rfl ?_
  refine s1 (r_asi rfl) ?_
  refine wn ?_
  have mm : Mem w No w12 [bk b6 (evC x) 25, bk b9 (evC y) 25, own 5 1 a11 (putE x).length c11 (u8s (putE x)), own 5 1 a12 (putE y).length c12 (u8s (putE y))] := mm
  refine c_block ?_
  refine c_loop (fun k e w' => ∃ (i : Nat), k + i = (putE x).length ∧ e 6 = .pointer (some ⟨b6, 0, none⟩) ∧ e 7 = .pointer (some ⟨b9, 0, none⟩) ∧ e 8 = .slice a11 (putE x).length c11 ∧ e 10 = .slice a12 (putE y).length c12 ∧ e 12 = .int .i64 i ∧ Mem w No w' [bk b6 (evC x) 25, bk b9 (evC y) 25, own 5 1 a11 (putE x).length c11 (u8s (putE x)), own 5 1 a12 (putE y).length c12 (u8s (putE y))]) (putE x).length ?_ ?_
  · exact ⟨0, rfl, rfl, rfl, rfl, rfl, rfl, mm⟩
  clear mm hc hn
  rintro k e w9 ⟨i, hki, h6, h7, h8, h10, h12, mm⟩
  have hcx := own_le (mm.o 2 rfl)
  have hcy := own_le (mm.o 3 rfl)
  refine c_seq ?_
  refine c_sreg rfl ?_
  refine s1 (r_mvi h12) ?_
  refine s1 (r_mvs h8) ?_
  refine s1 (r_len rfl) ?_
  refine s1 (r_lt rfl rfl) ?_
  refine wn ?_
  refine c_cond rfl (fun h => (c_skip (t_n ?_))) (fun h => (c_exit (t_x (t_x (b_x (t_n ?_))))))
  · have hi : i < (putE x).length := by simp at h; omega
    clear h
    refine c_seq ?_
    refine c_block ?_
    refine c_sreg rfl ?_
    refine s1 (r_mvs h8) ?_
    refine s1 (r_mvi h12) ?_
    refine s1 (r_slh rfl rfl (by omega) (by omega)) ?_
    refine so (o_c1 rfl (c_eCut x hx i hi _ _ (Sl.pre (mm.c 2 rfl) hcx i (by omega))) ?_)
    rintro _ w13 ⟨rfl, hc⟩
    have mm := mm.frame hc
    refine s1 (r_mvu rfl) ?_
    refine s1 (r_extg rfl rfl) ?_
    refine s1 (r_exti rfl rfl) ?_
    refine s1 (r_exti rfl rfl) ?_
    refine so (o_al mm fun b14 w14 mm => ?_)
    refine ss (o_sta mm 4 rfl rfl rfl rfl rfl (Nat.le_of_ble_eq_true rfl) fun w15 mm => ?_)
    refine s1 (r_asi rfl) ?_
    refine s1 (r_asi rfl) ?_
    refine wn ?_
    refine c_sreg rfl ?_
    refine s1 (r_mvi rfl) ?_
    refine s1 (r_ne rfl rfl) ?_
    refine s1 (r_mvb rfl) ?_
    refine sF rfl rfl (fun h => r_mvi rfl) ?_
    refine sF rfl rfl (fun h => r_ne (sel_t h :) rfl) ?_
    refine s1 (r_or rfl rfl) ?_
    refine s1 (r_mvb rfl) ?_
    refine sF rfl rfl (fun h => r_lda rfl (mm.b 4 rfl) rfl) ?_
    refine sF rfl rfl (fun h => r_bd bN rfl) ?_
    refine sF rfl rfl (fun h => r_nea ev_guard (ev_eq _ _ evW_Z evW_Z) (sel_t h :) (sel_t h :)) ?_
    refine s1 (r_or rfl rfl) ?_
    refine wn ?_
    refine c_cond rfl (fun h => ?_) (fun h => (c_skip (b_n (t_n ?_))))
    · cases h
    clear h
    refine c_region rfl ?_
    refine s1 (r_mvi h12) ?_
    refine s1 (r_add rfl rfl (wi (by omega) (by omega))) ?_
    refine s1 (r_asi rfl) ?_
    refine wn (t_n ?_)
    exact ⟨k - 1, by omega, i + 1, by omega, h6, h7, h8, h10, rfl, mm.pk [0, 1, 2, 3] (by decide)⟩
  clear h
  refine c_sreg rfl ?_
  refine s1 (r_mvs h8) ?_
  refine s1 (r_len rfl) ?_
  refine s1 (r_mvs h10) ?_
  refine s1 (r_len rfl) ?_
  refine s1 (r_min2 rfl rfl) ?_
  refine s1 (r_asi rfl) ?_
  refine wn ?_
  refine c_sdraw mixed [(0, true), (1, true), (2, true), (3, true), (4, true), (5, true), (6, true), (7, true), (8, true), (9, true), (10, true), (11, true), (12, true), (13, true)] [true, true, true, true, true, true, true, true, true, true, true, true, true, true] (Sof mm) (by kernel_rfl) rfl rfl (by kernel_rfl) (fun w16 hc => ?_)
  have mm := mm.frame hc
  refine p1 rfl (fun w m => r_mvs h8) mm ?_
  refine p1 rfl (fun w m => r_mvi rfl) mm ?_
  refine p1 rfl (fun w m => r_slh rfl rfl (by omega) (by omega)) mm ?_
  refine p1 rfl (fun w m => r_b2s rfl ((m.c 2 rfl).takeb (min (putE x).length (putE y).length)) (by rw [List.length_take]; omega)) mm ?_
  refine p1 rfl (fun w m => r_mvs h10) mm ?_
  refine p1 rfl (fun w m => r_mvi rfl) mm ?_
  refine p1 rfl (fun w m => r_slh rfl rfl (by omega) (by omega)) mm ?_
  refine p1 rfl (fun w m => r_b2s rfl ((m.c 3 rfl).takeb (min (putE x).length (putE y).length)) (by rw [List.length_take]; omega)) mm ?_
  refine p1 rfl (fun w m => r_seq rfl rfl) mm ?_
  refine p1 rfl (fun w m => r_lda h6 (m.b 0 rfl) rfl) mm ?_
  refine p1 rfl (fun w m => r_lda h7 (m.b 1 rfl) rfl) mm ?_
  refine p1 rfl (fun w m => r_eqa ev_guard (ev_eq _ _ (evW_of hx) (evW_of hy)) rfl rfl) mm ?_
  refine p1 rfl (fun w m => r_beq Try.underlying4 rfl rfl) mm ?_
  refine p1 rfl (fun w m => r_asb rfl) mm ?_
  refine pn ?_
  refine c_ret (ret1 rfl rfl ⟨congrArg Value.bool (?_ : _ = true), mm.chg⟩)
  rw [putE_pre hx hy]
  simp
end Go.Proofs.Ytgdbbaggkoillaa
/- kithlaw07.few, short, kithref07.Same: walks. -/
namespace Go.Proofs.Ytgdbbaggkoillaa
open K
set_option maxRecDepth 100000
set_option maxHeartbeats 4000000

theorem c_short (w0 : World) (b : List UInt8) (v : Value) (w : World) (hs : Sl w0 v b) : Cl Try.prog 33 #[v] w (fun r w' => Sl w0 r (b.take 2100) ∧ Chg No w w') := by
  obtain ⟨a, c, rfl, hac, H⟩ := hs
  have hmin : (min (b.length : Int) 2100) = ((min b.length 2100 : Nat) : Int) := by omega
  refine f_enter (args := [_]) Try.func33 rfl rfl ?_
  have mm := Mem.nil No w
  refine c_sreg rfl ?_
  refine s1 (r_ass rfl) ?_
  refine wn ?_
  refine c_sreg rfl ?_
  refine s1 (r_mvs rfl) ?_
  refine s1 (r_mvs rfl) ?_
  refine s1 (r_len rfl) ?_
  refine s1 (r_min2 rfl rfl) ?_
  refine s1 (r_slh rfl rfl (by omega) (by omega)) ?_
  refine s1 (r_ass rfl) ?_
  refine wn ?_
  refine c_ret (ret1 rfl rfl ⟨⟨a, c, ?_, ?_, H.takeb 2100⟩, mm.chg⟩)
  · show Value.slice a (min (b.length : Int) 2100).toNat c = _
    rw [hmin, List.length_take, Nat.min_comm]; rfl
  · rw [List.length_take]; omega
theorem K.Cells.takee {w : World} {a : Option Addr} {l : List Ev} (h : Cells w a (evsC l)) (n : Nat) : Cells w a (evsC (l.take n)) := by
  rw [← evsC_take]
  intro j v hj
  rw [nth_eq] at hj
  refine h j v ?_
  rw [nth_eq]
  rw [List.getElem?_take] at hj
  split at hj
  · exact hj
  · cases hj
def few07 (x : Rec) : Rec := { x with es := x.es.take 22 }
theorem c_few07 (x : Rec) {a : Option Addr} {cap : Nat} (w : World) (hcap : x.es.length ≤ cap) (hl : x.es.length ≤ 1000000000000000) : Cl Try.prog 31 #[.agg (recV x a cap).toArray] w (fun r w' => r = .agg (recV (few07 x) a cap).toArray ∧ Chg No w w') := by
  have hmin : (min (x.es.length : Int) 22) = ((min x.es.length 22 : Nat) : Int) := by omega
  refine f_enter (args := [_]) Try.func31 rfl rfl ?_
  have mm := Mem.nil No w
  refine c_sreg rfl ?_
  refine so (o_bxa mm rfl fun b2 w2 mm => ?_)
  refine so (o_al mm fun b3 w3 mm => ?_)
  refine wn ?_
  refine c_sreg rfl ?_
  refine s1 (r_fa rfl) ?_
  refine s1 (r_ld rfl (mm.b 0 rfl) rfl) ?_
  refine s1 (r_fa rfl) ?_
  refine s1 (r_ld rfl (mm.b 0 rfl) rfl) ?_
  refine s1 (r_len rfl) ?_
  refine s1 (r_min2 rfl rfl) ?_
  refine s1 (r_slh rfl rfl (by omega) (by omega)) ?_
  refine s1 (r_fa rfl) ?_
  refine ss (o_st mm 0 rfl rfl rfl rfl rfl fun w4 mm => ?_)
  refine wn ?_
  have hle : (min (x.es.length : Int) 22).toNat = (x.es.take 22).length := by rw [hmin, List.length_take, Nat.min_comm]; rfl
  refine c_sreg rfl ?_
  refine s1 (r_lda rfl (mm.b 0 rfl) rfl) ?_
  refine ss (o_sta mm 1 rfl rfl rfl rfl rfl (Nat.le_of_ble_eq_true rfl) fun w5 mm => ?_)
  refine wn ?_
  refine c_ret (retc rfl rfl (mm.b 1 rfl) rfl ⟨?_, mm.chg⟩)
  show Value.agg (recV ⟨x.kind, x.r, x.upto, x.c, []⟩ a cap |>.take 8 |>.append [.slice a (min (x.es.length : Int) 22).toNat cap]).toArray = _
  rw [hle]; rfl
theorem c_same07 (x y : Rec) (hx : RecW x) (hy : RecW y) {a a' : Option Addr} {c c' : Nat} (w : World) (H : Cells w a (evsC x.es)) (H' : Cells w a' (evsC y.es)) :
    Cl Try.prog 37 #[.agg (recV x a c).toArray, .agg (recV y a' c').toArray] w (fun r w' => r = .bool (decide (x = y)) ∧ Chg No w w') := by
  refine f_enter (args := [_, _]) Try.func37 rfl rfl ?_
  have mm := Mem.nil No w
  refine c_sreg rfl ?_
  refine so (o_bxa mm rfl fun b2 w2 mm => ?_)
  refine so (o_bxa mm rfl fun b3 w3 mm => ?_)
  refine s1 (r_asb rfl) ?_
  refine wn ?_
  refine c_sreg rfl ?_
  refine s1 (r_fa rfl) ?_
  refine s1 (r_ld rfl (mm.b 0 rfl) rfl) ?_
  refine s1 (r_fa rfl) ?_
  refine s1 (r_ld rfl (mm.b 1 rfl) rfl) ?_
  refine s1 (r_eq rfl rfl) ?_
  refine s1 (r_mvb rfl) ?_
  refine sT rfl rfl (fun h => r_fa rfl) ?_
  refine sT rfl rfl (fun h => r_ld (sel_t h :) (mm.b 0 rfl) rfl) ?_
  refine sT rfl rfl (fun h => r_fa rfl) ?_
  refine sT rfl rfl (fun h => r_ld (sel_t h :) (mm.b 1 rfl) rfl) ?_
  refine sT rfl rfl (fun h => r_eq (sel_t h :) (sel_t h :)) ?_
  refine s1 (r_and rfl rfl) ?_
  refine s1 (r_mvb rfl) ?_
  refine sT rfl rfl (fun h => r_fa rfl) ?_
  refine sT rfl rfl (fun h => r_ld (sel_t h :) (mm.b 0 rfl) rfl) ?_
  refine sT rfl rfl (fun h => r_fa rfl) ?_
  refine sT rfl rfl (fun h => r_ld (sel_t h :) (mm.b 1 rfl) rfl) ?_
  refine sT rfl rfl (fun h => r_eq (sel_t h :) (sel_t h :)) ?_
  refine s1 (r_and rfl rfl) ?_
  refine s1 (r_mvb rfl) ?_
  refine sT rfl rfl (fun h => r_fa rfl) ?_
  refine sT rfl rfl (fun h => r_lda (sel_t h :) (mm.b 0 rfl) rfl) ?_
  refine sT rfl rfl (fun h => r_fa rfl) ?_
  refine sT rfl rfl (fun h => r_lda (sel_t h :) (mm.b 1 rfl) rfl) ?_
  refine sT rfl rfl (fun h => r_eqa clk_guard (clk_eq _ _ hx.c hy.c) (sel_t h :) (sel_t h :)) ?_
  refine s1 (r_and rfl rfl) ?_
  refine s1 (r_mvb rfl) ?_
  refine sT rfl rfl (fun h => r_fa rfl) ?_
  refine sT rfl rfl (fun h => r_ld (sel_t h :) (mm.b 0 rfl) rfl) ?_
  refine sT rfl rfl (fun h => r_fa rfl) ?_
  refine sT rfl rfl (fun h => r_ld (sel_t h :) (mm.b 1 rfl) rfl) ?_
  refine sTw (I := Sof mm) rfl rfl mm (fun h => o_c2 (sel_t h :) (sel_t h :) (c_same6 x.es y.es hx.es hy.es hx.len _ _ _ ⟨_, _, rfl, mm.ro H⟩ ⟨_, _, rfl, mm.ro H'⟩) (fun _ _ hh => ⟨hh.1, mm.frame hh.2⟩)) (fun w4 mm => ?_)
  refine s1 (r_and rfl rfl) ?_
  refine s1 (r_asb rfl) ?_
  refine wn ?_
  refine c_ret (ret1 rfl rfl ⟨congrArg Value.bool (?_ : _ = decide (x = y)), mm.chg⟩)
  show (decide (x.kind = y.kind) && decide (x.r = y.r) && decide (x.upto = y.upto) && decide (x.c = y.c) && decide (x.es = y.es)) = decide (x = y)
  rw [Bool.eq_iff_iff]
  simp only [Bool.and_eq_true, decide_eq_true_eq]
  constructor
  · rintro ⟨⟨⟨⟨h1, h2⟩, h3⟩, h4⟩, h5⟩
    exact rec_ext h1 h2 h3 h4 h5
  · rintro rfl
    simp
theorem frW_of {x : Rec} (ok : FrOk x) : RecW x := ⟨clkW_of fun i hi => by have := ok.c i hi; exact ⟨by omega, by omega⟩, fun y hy => evW_of (evMay_ok (ok.es y hy)), by have := ok.most; omega⟩
theorem recW_0 : RecW rec0 := ⟨clk0_w, fun y hy => (nomatch hy), by decide⟩
theorem takeF_w (b : List UInt8) : RecW (takeF b).1 := by
  rcases takeF_code b with h | h
  · exact frW_of (frMay_ok (takeF_ok h).2.1)
  · rw [h.1]; exact recW_0
end Go.Proofs.Ytgdbbaggkoillaa
/- Frames made that may be: plain. -/
namespace Go.Proofs.Ytgdbbaggkoillaa
open K
def fitFE (k r : Int) (y : Ev) : Ev := if k = 1 then { fitEv y with c := (((fitEv y).c.set (fitEv y).r.toNat 0).set r.toNat ((fitEv y).n - 1)), r := r } else fitEv y
def fitFs (k r : Int) (l : List Ev) : List Ev := (l.take 20).map (fitFE k r)
def frFit (x : Rec) : Rec :=
  let k := fitK x.kind
  if k = 2 then ⟨2, fitR x.r, m20 x.upto, clk0, []⟩
  else if k = 3 ∨ k = 5 then ⟨k, fitR x.r, 0, fitC x.c, []⟩
  else ⟨if (fitFs k (fitR x.r) x.es).length = 0 then 4 else k, fitR x.r, 0, clk0, fitFs k (fitR x.r) x.es⟩
theorem fitK_in (n : Int) : 1 ≤ fitK n ∧ fitK n ≤ 5 := by have := fitR_in n; unfold fitR at this; unfold fitK; omega
theorem evMay_evOk {x : Ev} (h : evMay x = 0) : EvOk x := evMay_ok h
theorem evOk_may {x : Ev} (hk : EvOk x) : evMay x = 0 := by
  have hh : evHead x = true := by
    simp only [evHead, Bool.and_eq_true, decide_eq_true_eq]
    exact ⟨⟨⟨⟨⟨⟨⟨hk.r0, hk.r5⟩, hk.n1⟩, hk.n2⟩, hk.own⟩, hk.h1⟩, hk.h2⟩, (Clk.all_iff _ _).2 fun i hi => by have := hk.c i hi; simp [inEv]; omega⟩
  refine (if_pos hh).trans ?_
  have hk1 := hk.k1
  have hk5 := hk.k5
  have h1 : tKey x.key = 0 := if_pos (by simp only [keyOk, Bool.and_eq_true, decide_eq_true_eq]; exact ⟨⟨hk.key1, hk.key8⟩, hk.keya⟩)
  refine (if_neg (show ¬ (x.kind < 1 ∨ 5 < x.kind) by omega)).trans ?_
  refine (if_neg (show ¬ tKey x.key ≠ 0 by rw [h1]; decide)).trans ?_
  by_cases hb : x.kind ≤ 2
  · refine (if_pos (show x.kind ≤ 2 from hb)).trans ?_
    refine (if_neg (show ¬ x.label ≠ 0 by rw [(hk.bare hb).1]; decide)).trans ?_
    exact if_neg (show ¬ x.val ≠ [] by rw [(hk.bare hb).2]; decide)
  · refine (if_neg (show ¬ x.kind ≤ 2 from hb)).trans ?_
    have h2 : tLabel x.label = 0 := if_pos ⟨hk.l0, hk.l2⟩
    exact (if_neg (show ¬ tLabel x.label ≠ 0 by rw [h2]; decide)).trans (if_pos ⟨hk.v1 (by omega), hk.v12⟩)
theorem fitFE_ok (k r : Int) (hr : 0 ≤ r ∧ r < 5) (y : Ev) : evMay (fitFE k r y) = 0 := by
  unfold fitFE
  split
  · have ok := evMay_ok (fitEv_ok y)
    have h0 := ok.r0; have h5 := ok.r5; have n1 := ok.n1; have n2 := ok.n2
    refine evOk_may ⟨hr.1, hr.2, ok.n1, ok.n2, ?_, ok.h1, ok.h2, fun i hi => ?_, ok.k1, ok.k5, ok.key1, ok.key8, ok.keya, ok.l0, ok.l2, ok.v12, ok.v1, ok.bare⟩
    · show (((fitEv y).c.set (fitEv y).r.toNat 0).set r.toNat ((fitEv y).n - 1)).get r.toNat = _
      rw [Clk.get_set _ _ _ (by omega) (by omega), if_pos rfl]
    · show 0 ≤ (((fitEv y).c.set (fitEv y).r.toNat 0).set r.toNat ((fitEv y).n - 1)).get i ∧ (((fitEv y).c.set (fitEv y).r.toNat 0).set r.toNat ((fitEv y).n - 1)).get i ≤ 1048576
      rw [Clk.get_set _ _ _ (by omega) hi]
      split
      · omega
      · rw [Clk.get_set _ _ _ (by omega) hi]
        split
        · omega
        · exact ok.c i hi
  · exact fitEv_ok y
theorem fitFs_ok (k r : Int) (hr : 0 ≤ r ∧ r < 5) (l : List Ev) : ∀ y ∈ fitFs k r l, evMay y = 0 := by
  intro y hy
  obtain ⟨z, _, rfl⟩ := List.mem_map.1 hy
  exact fitFE_ok k r hr z
theorem fitFs_len (k r : Int) (l : List Ev) : (fitFs k r l).length ≤ 20 := by unfold fitFs; rw [List.length_map, List.length_take]; omega
theorem fitFs_own (r : Int) (l : List Ev) : ∀ y ∈ fitFs 1 r l, y.r = r := by
  intro y hy
  obtain ⟨z, _, rfl⟩ := List.mem_map.1 hy
  unfold fitFE
  rw [if_pos rfl]
theorem frFit_ok (x : Rec) : FrOk (frFit x) := by
  have hr := fitR_in x.r
  have hu := m20_in x.upto
  have hk := fitK_in x.kind
  unfold frFit
  generalize fitK x.kind = k at *
  generalize fitR x.r = r at *
  simp only
  split
  · refine ⟨(by decide : fHas 2 ≠ 0), hr.1, hr.2, .inr rfl, .inl rfl, .inr rfl, .inl (by show (2 : Int) ≠ 1; decide), by show 0 ≤ 20; decide, hu.1, by show m20 x.upto ≤ 1048576; omega, fun i hi => ?_, fun y hy => (nomatch hy), fun h => absurd (show (2 : Int) = 1 from h) (by decide)⟩
    show 0 ≤ clk0.get i ∧ clk0.get i ≤ 1048576
    rw [clk0_in]; omega
  · split
    · rename_i h35
      have hf : fHas k = 3 := by rcases h35 with rfl | rfl <;> rfl
      refine ⟨by show fHas k ≠ 0; rw [hf]; decide, hr.1, hr.2, .inr rfl, .inr rfl, .inl hf, .inl (by show k ≠ 1; omega), by show 0 ≤ 20; decide, Int.le_refl 0, (by decide : (0 : Int) ≤ 1048576), fun i hi => ?_, fun y hy => (nomatch hy), fun _ y hy => (nomatch hy)⟩
      show 0 ≤ (fitC x.c).get i ∧ (fitC x.c).get i ≤ 1048576
      rw [fitC_get]
      have := m20_in (x.c.get i)
      omega
    · rename_i h2 h35
      have hl := fitFs_len k r x.es
      have hes := fitFs_ok k r hr x.es
      have hkk : k = 1 ∨ k = 4 := by omega
      have hclk : ∀ i, i < 5 → 0 ≤ clk0.get i ∧ clk0.get i ≤ 1048576 := fun i _ => by rw [clk0_in]; omega
      by_cases h0 : (fitFs k r x.es).length = 0
      · rw [if_pos h0]
        exact ⟨(by decide : fHas 4 ≠ 0), hr.1, hr.2, .inl rfl, .inr rfl, .inr rfl, .inl (by show (4 : Int) ≠ 1; decide), hl, Int.le_refl 0, (by decide : (0 : Int) ≤ 1048576), hclk, hes, fun h => absurd (show (4 : Int) = 1 from h) (by decide)⟩
      · rw [if_neg h0]
        have hf : fHas k = 1 := by rcases hkk with rfl | rfl <;> rfl
        refine ⟨by show fHas k ≠ 0; rw [hf]; decide, hr.1, hr.2, .inl hf, .inr rfl, .inr rfl, .inr (fun he => h0 (by have he : fitFs k r x.es = [] := he; rw [he]; rfl)), hl, Int.le_refl 0, (by decide : (0 : Int) ≤ 1048576), hclk, hes, fun h => ?_⟩
        have h : k = 1 := h
        subst h
        exact fitFs_own r x.es
end Go.Proofs.Ytgdbbaggkoillaa
