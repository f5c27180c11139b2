/- hub.Hub's Start: plain, and the walk. -/
import Derived.Test.YtbcpabfemejlgaaM17
import Derived.Test.YtbcpabfemejlgaaM11
import Derived.Test.YtbcpabfemejlgaaM14
import Derived.Test.YtbcpabfemejlgaaM12
import Derived.Laws.Pointers
import Derived.Test.YtbcpabfemejlgaaM13
namespace Go.Proofs.Ytbcpabfemejlgaa
open K
set_option maxRecDepth 100000
set_option maxHeartbeats 4000000

def rep1 (W : Int) (p : Po) (x : Rec) : Po := if x.kind = 5 then (poPush W p x.r x.es).1 else if x.kind = 6 then (poAck p x.r x.c).1 else p
def replay (W : Int) (n : Nat) (rs : List Rec) : Po := rs.foldl (rep1 W) (poNew n)
theorem rep1_ok {N : Nat} {W : Int} {p : Po} (ok : PoOk N W p) {x : Rec} (h : RecOk x) : PoOk N W (rep1 W p x) ∧ PoLe N p (rep1 W p x) := by
  unfold rep1
  split
  · exact push_ok ok x.r x.es fun y hy => (evOk_n h.es y hy).2
  · split
    · exact poAck_ok ok x.r x.c h.c
    · exact ⟨ok, PoLe.refl _ _⟩
theorem replay_snoc (W : Int) (n : Nat) (rs : List Rec) (x : Rec) : replay W n (rs ++ [x]) = rep1 W (replay W n rs) x := by
  unfold replay; rw [List.foldl_append]; rfl
theorem replay_ok {n : Nat} {W : Int} (h1 : 1 ≤ n) (h5 : n ≤ 5) (w1 : 1 ≤ W) (w4 : W ≤ 4) (rs : List Rec) (hok : ∀ x ∈ rs, RecOk x) : ∀ i, i ≤ rs.length → PoOk n W (replay W n (rs.take i))
  | 0, _ => poNew_ok h1 h5 w1 w4
  | i + 1, h => by
    rw [List.take_succ_eq_append_getElem (by omega), replay_snoc]
    exact (rep1_ok (replay_ok h1 h5 w1 w4 rs hok i (by omega)) (hok _ (List.getElem_mem (by omega)))).1
theorem K.Mem.keepI {w0 w : World} {F0 : Nat → Prop} {L : List It} {I J : It} (m : Mem w0 F0 w L) {k j : Nat} (hk : nth L k = some I) (hj : nth L j = some J) (hkj : k ≠ j) : Stab I w (fun w' => J.holds w') := fun w' hc =>
  J.keep w w' (m.ok j J hj) fun b hb => hc.same b (J.live w b (m.ok j J hj) hb) (fun h => m.dis k j I J hk hj hkj b h hb)
theorem c_hbStart1 (c : Cf) (z : HL) (st : Hb) (hu : st.up = true) (w : World) (hI : (hbI c z st).holds w) : Cl Try.prog 17 #[.pointer (some ⟨z.q, 0, none⟩)] w
      (fun r w' => r = .int .i64 19 ∧ Mem w (hbI c z st).foot w' [hbI c z st]) := by
  obtain ⟨up, po, d⟩ := st
  have hu : up = true := hu
  subst hu
  have mm : Mem w (hbI c z ⟨true, po, d⟩).foot w (hbIs c z ⟨true, po, d⟩) := (Mem.one hI).open
  generalize hF0 : (hbI c z ⟨true, po, d⟩).foot = F0 at mm
  refine f_enter (args := [_]) Try.func17 rfl rfl ?_
  refine c_sreg rfl ?_
  refine s1 (r_asi rfl) ?_
  refine wn ?_
  refine c_seq ?_
  refine c_sreg rfl ?_
  refine s1 (r_mvp rfl) ?_
  refine s1 (r_nil rfl) ?_
  refine s1 (r_fa rfl) ?_
  refine s1 (r_fa rfl) ?_
  refine s1 (r_ld rfl (mm.b 0 rfl) rfl) ?_
  refine wn ?_
  refine c_cond rfl (fun h => ?_) (fun h => (c_skip (t_n ?_)))
  rotate_left
  · cases h
  clear h
  refine c_sreg rfl ?_
  refine s1 (r_asi rfl) ?_
  refine wn ?_
  exact c_ret (ret1 rfl rfl ⟨rfl, mm.close⟩)
theorem c_hbStart (c : Cf) (n : Nat) (hn : c.n = n) (n1 : 1 ≤ n) (n5 : n ≤ 5) (hW1 : 1 ≤ c.w) (hW4 : c.w ≤ 4) (z : HL) (po : Po) (rs : List Rec) (t : List UInt8) (dn : Bool) (ct : Option Int) (hok : ∀ x ∈ rs, RecOk x) (hes : ∀ x ∈ rs, x.es.length ≤ 1000) (hst : StopR t) (hlen : (putsR rs ++ t).length ≤ 1000000000) (w : World)
    (hI : (hbI c z ⟨false, po, ⟨putsR rs ++ t, dn, ct⟩⟩).holds w) : Cl Try.prog 17 #[.pointer (some ⟨z.q, 0, none⟩)] w
      (fun r w' => ∃ z', z'.q = z.q ∧ r = .int .i64 0 ∧ Mem w (hbI c z ⟨false, po, ⟨putsR rs ++ t, dn, ct⟩⟩).foot w' [hbI c z' ⟨true, replay c.w n rs, ⟨putsR rs, false, none⟩⟩]) := by
  have mm : Mem w (hbI c z ⟨false, po, ⟨putsR rs ++ t, dn, ct⟩⟩).foot w [bk z.q (hbB z c false) 64, dkI z.dq z.da z.dc z.dm ⟨putsR rs ++ t, dn, ct⟩] := (Mem.one hI).open
  generalize hF0 : (hbI c z ⟨false, po, ⟨putsR rs ++ t, dn, ct⟩⟩).foot = F0 at mm
  have hrl : (putsR rs).length ≤ (putsR rs ++ t).length := by rw [List.length_append]; omega
  have hrt : (putsR rs ++ t).take (putsR rs).length = putsR rs := List.take_left
  refine f_enter (args := [_]) Try.func17 rfl rfl ?_
  refine c_sreg rfl ?_
  refine s1 (r_asi rfl) ?_
  refine wn ?_
  refine c_seq ?_
  refine c_sreg rfl ?_
  refine s1 (r_mvp rfl) ?_
  refine s1 (r_nil rfl) ?_
  refine s1 (r_fa rfl) ?_
  refine s1 (r_fa rfl) ?_
  refine s1 (r_ld rfl (mm.b 0 rfl) rfl) ?_
  refine wn ?_
  refine c_cond rfl (fun h => ?_) (fun h => (c_skip (t_n ?_)))
  · cases h
  clear h
  refine c_sreg rfl ?_
  refine s1 (r_mvp rfl) ?_
  refine s1 (r_nil rfl) ?_
  refine s1 (r_fa rfl) ?_
  refine s1 (r_ld rfl (mm.b 0 rfl) rfl) ?_
  refine so (o_c1 rfl (c_dkStart (mm.h 1 rfl)) ?_)
  rintro _ w2 ⟨rfl, hm⟩
  have mm := mm.lift1 1 rfl hm
  refine wn ?_
  have hall := fun (v : Value) (w' : World) h => c_rAllC rs hok t hst hlen v w' h
  have hby := fun (w' : World) (h : (dkI z.dq z.da z.dc z.dm ⟨putsR rs ++ t, false, none⟩).holds w') => c_dkBytes (by show (putsR rs ++ t).length ≤ _; omega) h
  have htr := fun (w' : World) (h : (dkI z.dq z.da z.dc z.dm ⟨putsR rs ++ t, false, none⟩).holds w') => c_dkTrim (putsR rs).length hrl (by show (putsR rs ++ t).length ≤ _; omega) h
  simp only [hrt] at htr
  refine c_sreg rfl ?_
  refine s1 (r_mvp rfl) ?_
  refine s1 (r_nil rfl) ?_
  refine s1 (r_fa rfl) ?_
  refine s1 (r_ld rfl (mm.b 0 rfl) rfl) ?_
  refine so (o_c1 rfl (hby _ (mm.h 1 rfl)) ?_)
  rintro _ w3 ⟨a3, c3, rfl, hc, hn'⟩
  have mm := mm.new hc hn'
  refine so (o_c1 rfl (hall _ _ (Sl.own mm 2 rfl)) ?_)
  rintro _ w4 ⟨ms, ar, cr, hms, hcp, rfl, hm⟩
  have mm := mm.join hm
  refine s1 (r_mvu rfl) ?_
  refine s1 (r_exts rfl rfl) ?_
  refine s1 (r_exti rfl rfl) ?_
  refine s1 (r_ass rfl) ?_
  refine s1 (r_asi rfl) ?_
  refine wn ?_
  refine c_sreg rfl ?_
  refine s1 (r_mvp rfl) ?_
  refine s1 (r_nil rfl) ?_
  refine s1 (r_fa rfl) ?_
  refine s1 (r_ld rfl (mm.b 0 rfl) rfl) ?_
  refine s1 (r_mvi rfl) ?_
  refine so (o_c2 rfl rfl (htr _ (mm.h 1 rfl)) ?_)
  rintro _ w5 ⟨da, dc, rfl, hm⟩
  have mm := mm.lift1 1 rfl hm
  refine wn ?_
  refine c_sreg rfl ?_
  refine s1 (r_mvp rfl) ?_
  refine s1 (r_mvp rfl) ?_
  refine s1 (r_nil rfl) ?_
  refine s1 (r_fa rfl) ?_
  refine s1 (r_lda rfl (mm.b 0 rfl) rfl) ?_
  refine so (o_c1 rfl (c_poNew c n hn n5 _) ?_)
  rintro _ w6 ⟨y, rfl, hc, hn1⟩
  have mm := mm.new hc hn1
  refine s1 (r_bd (bp rfl (bb rfl bN)) rfl) ?_
  refine s1 (r_nil rfl) ?_
  refine s1 (r_fa rfl) ?_
  refine ss (o_sta mm 0 rfl rfl rfl rfl rfl (Nat.le_of_ble_eq_true rfl) fun w7 mm => ?_)
  refine wn ?_
  have mm : Mem w F0 _ [bk z.q (hbB { z with y := y } c true) 64, dkI z.dq da dc z.dm ⟨putsR rs, false, none⟩, poI c.w y (poNew n), own 84 9 ar ms.length cr (rmsC ms), evi ms] := mm.pk [0, 1, 5, 3, 4] (by decide)
  refine c_seq ?_
  refine c_sreg rfl ?_
  refine s1 (r_mvs rfl) ?_
  refine s1 (r_len rfl) ?_
  refine s1 (r_mvi rfl) ?_
  refine wn ?_
  have hml : ms.length = rs.length := by have := congrArg List.length hms; rwa [List.length_map] at this
  have hrsl := putsR_ge rs
  have hro := replay_ok n1 n5 hW1 hW4 rs hok
  refine c_block ?_
  refine c_loop (fun kk e w' => ∃ (i : Nat) (y' : PL), kk + i = rs.length ∧ e 0 = .pointer (some ⟨z.q, 0, none⟩) ∧ e 41 = .slice ar ms.length cr ∧ e 42 = .int .i64 (ms.length : Nat) ∧ e 43 = .int .i64 (i : Nat) ∧ Mem w F0 w' [bk z.q (hbB { z with y := y' } c true) 64, dkI z.dq da dc z.dm ⟨putsR rs, false, none⟩, poI c.w y' (replay c.w n (rs.take i)), own 84 9 ar ms.length cr (rmsC ms), evi ms]) rs.length ?_ ?_
  · exact ⟨0, y, rfl, rfl, rfl, rfl, rfl, mm⟩
  clear mm
  rintro kk e w9 ⟨i, y', hki, h0, h41, h42, h43, mm⟩
  refine c_sreg rfl ?_
  refine s1 (r_lt h43 h42) ?_
  refine wn ?_
  refine c_seq ?_
  refine c_cond rfl (fun h => (c_skip (t_n ?_))) (fun h => (c_exit (t_x (t_x (b_x (t_n ?_))))))
  · have hi : i < ms.length := by simp at h; omega
    clear h
    have hm1 : rs.take (i + 1) = rs.take i ++ [rs[i]] := List.take_succ_eq_append_getElem (by omega)
    have hmi : ms[i].1 = rs[i] := by
      have : (ms.map (·.1))[i]? = rs[i]? := by rw [hms]
      rw [List.getElem?_map, List.getElem?_eq_getElem hi, List.getElem?_eq_getElem (by omega)] at this
      simpa using this
    have ok := hok rs[i] (List.getElem_mem (by omega))
    have hel := hes rs[i] (List.getElem_mem (by omega))
    have okP := hro i (by omega)
    have hcpi := hcp ms[i] (List.getElem_mem hi)
    have hmm := List.getElem_mem hi
    rw [← hmi] at hm1 ok hel
    have hrs : replay c.w n (rs.take (i + 1)) = rep1 c.w (replay c.w n (rs.take i)) ms[i].1 := by rw [hm1, replay_snoc]
    generalize replay c.w n (rs.take i) = p at *
    generalize hmx : ms[i] = mx at *
    obtain ⟨x, ax, cx⟩ := mx
    dsimp only at ok hel hrs hcpi
    refine c_seq ?_
    refine c_block ?_
    refine c_sreg rfl ?_
    refine s1 (r_ix h41 h43 (by omega) (by omega) (rms_some (mm.c 3 rfl) hi)) ?_
    refine s1 (r_ldce rfl (mm.c 3 rfl) (by rw [rms_seg ms i hi, hmx]) (rms_le ms i hi) (by decide)) ?_
    refine so (o_al mm fun b8 w8 mm => ?_)
    refine ss (o_sta mm 5 rfl rfl rfl rfl rfl (Nat.le_of_ble_eq_true rfl) fun w9 mm => ?_)
    refine wn ?_
    refine c_sreg rfl ?_
    refine s1 (r_fa rfl) ?_
    refine s1 (r_ld rfl (mm.b 5 rfl) rfl) ?_
    refine wn ?_
    refine c_block ?_
    unfold rep1 at hrs
    refine c_sreg rfl ?_
    refine s1 (r_eq rfl rfl) ?_
    refine s1 (r_asb rfl) ?_
    refine wn ?_
    by_cases k5 : x.kind = 5
    · rw [if_pos k5] at hrs
      refine c_cond rfl (fun h => ?_) (fun h => ?_)
      rotate_left
      · exact absurd k5 (of_decide_eq_false h)
      clear h
      refine c_draw2 mixed [(0, some 0), (1, some 0), (2, some 0), (3, some 0), (5, some 0), (7, some 0), (4, some 2), (6, some 2), (8, some 2), (9, none)] [0, 0, 0, 0, 0, 0, 2, 0, 2, 0] (Sof mm) (Sof mm) (fun _ h => h) (by kernel_rfl) rfl rfl (by kernel_rfl) (fun w10 hc => ?_)
      have mm := mm.frame hc
      refine q01 rfl (fun w => r_mvp h0) ?_
      refine q01 rfl (fun w => r_nil rfl) ?_
      refine q01 rfl (fun w => r_fa rfl) ?_
      refine q01 rfl (fun w => r_fa rfl) ?_
      refine q01 rfl (fun w => r_fa rfl) ?_
      refine q01 rfl (fun w => r_fa rfl) ?_
      refine qA1 rfl (fun w m => r_ld rfl (m.b 0 rfl) rfl) mm ?_
      refine qA1 rfl (fun w m => r_ld rfl (m.b 5 rfl) rfl) mm ?_
      refine qA1 rfl (fun w m => r_ld rfl (m.b 5 rfl) rfl) mm ?_
      refine qo rfl (o_c3 rfl rfl rfl (c_poPush y' p okP x.r x.es hel (evOk_n ok.es) ax cx hcpi _ (mm.h 2 rfl) (fun w' hc ↦ (mm.keepI (k := 2) (j := 4) rfl rfl (by decide)) w' hc _ hmm)) ?_)
      rintro _ w11 ⟨sl', rfl, hm⟩
      have mm := mm.lift1 2 rfl hm
      refine ⟨trivial, ?_⟩
      refine qn (b_n (b_n (t_n ?_)))
      rw [← hrs] at mm
      refine c_region rfl ?_
      refine s1 (r_add h43 rfl (wi (by omega) (by omega))) ?_
      refine s1 (r_mvi rfl) ?_
      refine wn (t_n ?_)
      exact ⟨kk - 1, by omega, i + 1, { y' with sl := sl' }, by omega, h0, h41, h42, rfl, mm.pk [0, 1, 2, 3, 4] (by decide)⟩
    rw [if_neg k5] at hrs
    refine c_cond rfl (fun h => ?_) (fun h => ?_)
    · exact absurd (of_decide_eq_true h) k5
    clear h
    refine c_sreg rfl ?_
    refine s1 (r_eq rfl rfl) ?_
    refine s1 (r_asb rfl) ?_
    refine wn ?_
    by_cases k6 : x.kind = 6
    · rw [if_pos k6] at hrs
      refine c_cond rfl (fun h => ?_) (fun h => (c_skip (b_n (b_n (t_n ?_)))))
      rotate_left
      · exact absurd k6 (of_decide_eq_false h)
      clear h
      refine c_draw2 mixed [(0, some 0), (1, some 0), (2, some 0), (3, some 0), (5, some 0), (7, some 0), (4, some 2), (6, some 2), (8, some 2), (9, none)] [0, 0, 0, 0, 0, 0, 2, 0, 2, 0] (Sof mm) (Sof mm) (fun _ h => h) (by kernel_rfl) rfl rfl (by kernel_rfl) (fun w12 hc => ?_)
      have mm := mm.frame hc
      refine q01 rfl (fun w => r_mvp h0) ?_
      refine q01 rfl (fun w => r_nil rfl) ?_
      refine q01 rfl (fun w => r_fa rfl) ?_
      refine q01 rfl (fun w => r_fa rfl) ?_
      refine q01 rfl (fun w => r_fa rfl) ?_
      refine q01 rfl (fun w => r_fa rfl) ?_
      refine qA1 rfl (fun w m => r_ld rfl (m.b 0 rfl) rfl) mm ?_
      refine qA1 rfl (fun w m => r_ld rfl (m.b 5 rfl) rfl) mm ?_
      refine qA1 rfl (fun w m => r_lda rfl (m.b 5 rfl) rfl) mm ?_
      refine qo rfl (o_c3 rfl rfl rfl (c_poAck y' p okP x.r x.c ok.c _ (mm.h 2 rfl)) ?_)
      rintro _ w13 ⟨sl', rfl, hm⟩
      have mm := mm.lift1 2 rfl hm
      refine ⟨trivial, ?_⟩
      refine qn (b_n (b_n (t_n ?_)))
      rw [← hrs] at mm
      refine c_region rfl ?_
      refine s1 (r_add h43 rfl (wi (by omega) (by omega))) ?_
      refine s1 (r_mvi rfl) ?_
      refine wn (t_n ?_)
      exact ⟨kk - 1, by omega, i + 1, { y' with sl := sl' }, by omega, h0, h41, h42, rfl, mm.pk [0, 1, 2, 3, 4] (by decide)⟩
    rw [if_neg k6] at hrs
    refine c_cond rfl (fun h => ?_) (fun h => (c_skip (b_n (b_n (t_n ?_)))))
    · exact absurd (of_decide_eq_true h) k6
    clear h
    rw [← hrs] at mm
    refine c_region rfl ?_
    refine s1 (r_add h43 rfl (wi (by omega) (by omega))) ?_
    refine s1 (r_mvi rfl) ?_
    refine wn (t_n ?_)
    exact ⟨kk - 1, by omega, i + 1, _, by omega, h0, h41, h42, rfl, mm.pk [0, 1, 2, 3, 4] (by decide)⟩
  have hi : i = rs.length := by simp at h; omega
  clear h
  refine c_sreg rfl ?_
  refine s1 (r_asi rfl) ?_
  refine wn ?_
  rw [hi, List.take_length] at mm
  have mm : Mem w F0 _ [bk z.q (hbB { z with y := y', da := da, dc := dc } c true) 64, dkI z.dq da dc z.dm ⟨putsR rs, false, none⟩, poI c.w y' (replay c.w n rs)] := mm.pk [0, 1, 2] (by decide)
  exact c_ret (ret1 rfl rfl ⟨{ z with y := y', da := da, dc := dc }, rfl, rfl, Mem.close (A := hbIs c { z with y := y', da := da, dc := dc } ⟨true, replay c.w n rs, ⟨putsR rs, false, none⟩⟩) mm⟩)
end Go.Proofs.Ytbcpabfemejlgaa
/- kithref07.Put: the walk. -/
namespace Go.Proofs.Ytbcpabfemejlgaa
open K
set_option maxRecDepth 100000
set_option maxHeartbeats 4000000

theorem c_put6y (x : Ev) (hx : evMay x = 0) (w : World) : Cl Try.prog 25 #[.agg (evC x).toArray] w (fun v w' => ∃ a c, v = .tuple #[.slice a (putE x).length c, .int .i64 0] ∧ Chg No w w' ∧ New w w' (own 5 1 a (putE x).length c (u8s (putE x)))) := by
  have h := c_put6 x w
  rw [if_pos hx, hx] at h
  exact h
theorem c_put07 (x : Rec) {a : Option Addr} {cap : Nat} (w : World) (H : Cells w a (evsC x.es)) (hw : ClkW x.c) (hl : x.es.length ≤ 1000000000000000) : Cl Try.prog 12 #[.agg (recV x a cap).toArray] w
    (fun v w' => ∃ a' c', v = .tuple #[.slice a' (frPut x).length c', .int .i64 (if frMay x then 0 else 1)] ∧ Chg No w w' ∧ New w w' (own 5 1 a' (frPut x).length c' (u8s (frPut x)))) := by
  refine f_enter (args := [_]) Try.func12 rfl rfl ?_
  have mm := Mem.nil No w
  refine c_sreg rfl ?_
  refine so (o_bxa mm rfl fun b2 w2 mm => ?_)
  refine s1 (r_ass rfl) ?_
  refine s1 (r_asi rfl) ?_
  refine wn ?_
  refine c_seq ?_
  refine c_sreg rfl ?_
  refine s1 (r_lda rfl (mm.b 0 rfl) rfl) ?_
  refine so (o_c1 rfl (c_may07 x _ (mm.ro H) hw hl) ?_)
  rintro _ w3 ⟨rfl, hc⟩
  have mm := mm.frame hc
  refine s1 (r_not rfl) ?_
  refine wn ?_
  refine c_cond rfl (fun h => ?_) (fun h => (c_skip (t_n ?_)))
  · have hz : frMay x = false := by simpa using h
    refine c_sreg rfl ?_
    refine s1 (r_ass rfl) ?_
    refine s1 (r_asi rfl) ?_
    refine wn ?_
    have e1 : frPut x = [] := by unfold frPut; rw [hz]; rfl
    rw [e1, hz]
    have mm := mm.nilrow (T := 5) (sz := 1)
    exact c_ret (ret2 rfl rfl rfl ⟨none, 0, rfl, mm.chg, mm.isNew 1 rfl⟩)
  have hz : frMay x = true := by simpa using h
  clear h
  have ok := frMay_ok hz
  have e1 : frPut x = putF x := by unfold frPut; rw [hz]; rfl
  rw [e1, hz]
  have hkin := fHas_in ok.is
  have hbl := bodyF_len ok
  refine c_sreg rfl ?_
  refine s1 (r_fa rfl) ?_
  refine s1 (r_ld rfl (mm.b 0 rfl) rfl) ?_
  refine s1 (r_cv rfl rfl) ?_
  refine s1 (r_fa rfl) ?_
  refine s1 (r_ld rfl (mm.b 0 rfl) rfl) ?_
  refine s1 (r_cv rfl rfl) ?_
  refine so (o_bi2 mm rfl rfl fun a4 c4 w4 mm => ?_)
  refine s1 (r_ass rfl) ?_
  refine wn ?_
  rw [u8_int _ (by omega), u8_int _ ok.r0] at mm
  have mm : Mem w No _ [bk b2 (recV x a cap) 40, own 5 1 a4 [UInt8.ofNat x.kind.toNat, UInt8.ofNat x.r.toNat].length c4 (u8s [UInt8.ofNat x.kind.toNat, UInt8.ofNat x.r.toNat])] := mm
  generalize hp0 : [UInt8.ofNat x.kind.toNat, UInt8.ofNat x.r.toNat] = g0 at *
  have hl0 : g0.length = 2 := by rw [← hp0]; rfl
  refine c_seq ?_
  refine c_sreg rfl ?_
  refine s1 (r_fa rfl) ?_
  refine s1 (r_ld rfl (mm.b 0 rfl) rfl) ?_
  refine wn ?_
  generalize hB : bodyF x = B at *
  have hB' : g0 ++ (if fHas x.kind = 2 then vput x.upto.toNat else if fHas x.kind = 3 then clkB x.c 5 else UInt8.ofNat x.es.length :: evsB x.es) = B := by rw [← hB, ← hp0]; rfl
  have hu := vput_len10 x.upto.toNat (by have := ok.u1; omega)
  have hfx : ∀ (q : List UInt8) {w' : World} {a' : Option Addr} {n c' : Nat} {cs : List Value}, Mem w No w' [bk b2 (recV x a cap) 40, own 5 1 a' n c' cs] → n = q.length → cs = u8s q → Mem w No w' [bk b2 (recV x a cap) 40, own 5 1 a' q.length c' (u8s q)] := fun q _ _ _ _ _ h h1 h2 => h.castp h1 h2
  have hmost := ok.most
  have hl44 := evsB_len ok.es
  refine c_mid0 (fun e w' => ∃ ao co, e 1 = .pointer (some ⟨b2, 0, none⟩) ∧ e 4 = .slice ao B.length co ∧ Mem w No w' [bk b2 (recV x a cap) 40, own 5 1 ao B.length co (u8s B)]) ?_ ?_
  · refine c_block ?_
    refine c_sreg rfl ?_
    refine s1 (r_eq rfl rfl) ?_
    refine s1 (r_asb rfl) ?_
    refine wn ?_
    refine c_cond rfl (fun h => ?_) (fun h => ?_)
    · have hk2 : x.kind = 2 := by simpa using h
      have h2 : fHas x.kind = 2 := by rw [hk2]; rfl
      rw [if_pos h2] at hB'
      refine c_region rfl ?_
      refine s1 (r_mvs (show _ = Value.slice a4 g0.length c4 by rw [hl0]; rfl)) ?_
      refine s1 (r_fa rfl) ?_
      refine s1 (r_ld rfl (mm.b 0 rfl) rfl) ?_
      refine s1 (r_cv rfl (wu64n ok.u0 (by have := ok.u1; omega))) ?_
      refine so (o_c1 rfl (c_vput1 x.upto.toNat (by have := ok.u1; omega) _) ?_)
      rintro _ w5 ⟨a5, c5, rfl, hc, hn⟩
      have mm := mm.new hc hn
      refine so (o_ap mm 1 rfl rfl rfl (src_own mm  2 rfl (ones_u8s _)) (by omega) (by unfold maxLen; omega) fun a6 c6 w6 mm => ?_)
      refine s1 (r_ass rfl) ?_
      refine wn (b_n (t_n ?_))
      have hle : B.length = g0.length + (vput x.upto.toNat).length := by rw [← hB', List.length_append]
      have mm := hfx B (mm.pk [0, 1] (by decide)) hle.symm (by rw [← hB', u8s_append])
      refine ⟨_, _, rfl, ?_, mm⟩
      rw [hle]; rfl
    have hk2 : ¬ x.kind = 2 := by simpa using h
    clear h
    have h2 : ¬ fHas x.kind = 2 := by
      have hh : x.kind = 1 ∨ x.kind = 3 ∨ x.kind = 4 ∨ x.kind = 5 := by omega
      rcases hh with h | h | h | h <;> rw [h] <;> decide
    rw [if_neg h2] at hB'
    refine c_seq ?_
    refine c_sreg rfl ?_
    refine s1 (r_eq rfl rfl) ?_
    refine s1 (r_asb rfl) ?_
    refine wn ?_
    refine c_mid0 (fun e w' => e 1 = .pointer (some ⟨b2, 0, none⟩) ∧ e 4 = .slice a4 g0.length c4 ∧ e 55 = .bool (decide (x.kind = 3 ∨ x.kind = 5)) ∧ Mem w No w' [bk b2 (recV x a cap) 40, own 5 1 a4 g0.length c4 (u8s g0)]) ?_ ?_
    · refine c_cond rfl (fun h => (c_skip (t_n ?_))) (fun h => ?_)
      · have h3 : x.kind = 3 := of_decide_eq_true h
        refine ⟨rfl, by rw [hl0]; rfl, ?_, mm⟩
        show Value.bool (decide (x.kind = 3)) = _
        rw [h3]; rfl
      · have h3 : ¬ x.kind = 3 := of_decide_eq_false h
        refine c_region rfl ?_
        refine s1 (r_eq rfl rfl) ?_
        refine s1 (r_asb rfl) ?_
        refine wn (t_n ?_)
        refine ⟨rfl, by rw [hl0]; rfl, ?_, mm⟩
        show Value.bool (decide (x.kind = 5)) = _
        congr 1
        exact decide_eq_decide.2 ⟨.inr, fun h => h.resolve_left h3⟩
    clear mm
    rintro e w1 ⟨h1, h4, h55, mm⟩
    refine c_cond h55 (fun h => ?_) (fun h => ?_)
    · have h35 : x.kind = 3 ∨ x.kind = 5 := of_decide_eq_true h
      clear h
      have h3 : fHas x.kind = 3 := by rcases h35 with h | h <;> rw [h] <;> rfl
      rw [if_pos h3] at hB'
      refine c_sreg rfl ?_
      refine s1 (r_asi rfl) ?_
      refine wn ?_
      refine c_block ?_
      refine c_loop (fun k e w' => ∃ i ao co, k + i = 5 ∧ e 1 = .pointer (some ⟨b2, 0, none⟩) ∧ e 4 = .slice ao (g0 ++ clkB x.c i).length co ∧ Mem w No w' [bk b2 (recV x a cap) 40, own 5 1 ao (g0 ++ clkB x.c i).length co (u8s (g0 ++ clkB x.c i))] ∧ e 5 = .int .i64 (i : Nat)) 5 ?_ ?_
      · have e0 : clkB x.c 0 = [] := rfl
        refine ⟨0, a4, c4, rfl, h1, ?_, ?_, rfl⟩
        · rw [e0, List.append_nil]; exact h4
        · rw [e0, List.append_nil]; exact mm
      clear mm h1 h4
      rintro k e w2 ⟨i, ao, co, hki, h1, h4, mm, h5⟩
      refine c_seq ?_
      refine c_sreg rfl ?_
      refine s1 (r_mvi h5) ?_
      refine s1 (r_lt rfl rfl) ?_
      refine wn ?_
      refine c_cond rfl (fun h => (c_skip (t_n ?_))) (fun h => (c_exit (t_x (t_x (b_x (b_n (t_n ?_)))))))
      · have hi : i < 5 := by simp at h; omega
        clear h
        have hci := ok.c i hi
        have hcl2 := clkB_len x.c ok.c i (by omega)
        have hv10 := vput_len10 (x.c.get i).toNat (by omega)
        have hle0 : (g0 ++ clkB x.c i).length ≤ 62 := by rw [List.length_append]; omega
        have hg : nth (recV x a cap) (0 + 3 + ((i : Nat) : Int).toNat * 1) = some (.int .i64 (x.c.get i)) := by
          match i, hi with
          | 0, _ => rfl | 1, _ => rfl | 2, _ => rfl | 3, _ => rfl | 4, _ => rfl
        refine c_seq ?_
        refine c_block ?_
        refine c_region rfl ?_
        refine s1 (r_mvs h4) ?_
        refine s1 (r_mvi h5) ?_
        refine s1 (r_fa h1) ?_
        refine s1 (r_ixa rfl rfl (by omega) (by omega)) ?_
        refine s1 (r_ld rfl (mm.b 0 rfl) hg) ?_
        refine s1 (r_cv rfl (wu64n hci.1 (by omega))) ?_
        refine so (o_c1 rfl (c_vput1 (x.c.get i).toNat (by omega) _) ?_)
        rintro _ w7 ⟨a7, c7, rfl, hc, hn⟩
        have mm := mm.new hc hn
        refine so (o_ap mm 1 rfl rfl rfl (src_own mm  2 rfl (ones_u8s _)) (by omega) (by unfold maxLen; omega) fun a8 c8 w8 mm => ?_)
        refine s1 (r_ass rfl) ?_
        refine wn (b_n (t_n ?_))
        have mm := hfx (g0 ++ clkB x.c (i + 1)) (mm.pk [0, 1] (by decide)) (by rw [clkB_succ, len3]) (by rw [clkB_succ, u8s3])
        refine c_region rfl ?_
        refine s1 (r_mvi h5) ?_
        refine s1 (r_add rfl rfl (wi (by omega) (by omega))) ?_
        refine s1 (r_asi rfl) ?_
        refine wn (t_n ?_)
        refine ⟨k - 1, by omega, i + 1, _, _, by omega, h1, ?_, mm, rfl⟩
        rw [clkB_succ, len3]; rfl
      have hi : i = 5 := by simp at h; omega
      subst hi
      rw [hB'] at mm h4
      exact ⟨_, _, h1, h4, mm⟩
    have h35 : ¬ (x.kind = 3 ∨ x.kind = 5) := of_decide_eq_false h
    clear h
    have h3 : ¬ fHas x.kind = 3 := by
      have : x.kind = 1 ∨ x.kind = 4 := by omega
      rcases this with h | h <;> rw [h] <;> decide
    rw [if_neg h3] at hB'
    refine c_sreg rfl ?_
    refine s1 (r_mvs h4) ?_
    refine s1 (r_fa h1) ?_
    refine s1 (r_ld rfl (mm.b 0 rfl) rfl) ?_
    refine s1 (r_len rfl) ?_
    refine s1 (r_cv rfl rfl) ?_
    refine so (o_bi1 mm rfl fun a9 c9 w9 mm => ?_)
    refine so (o_ap mm 1 rfl rfl rfl (src_own mm 2 rfl rfl) (by omega) (by unfold maxLen; omega) fun a10 c10 w10 mm => ?_)
    refine s1 (r_ass rfl) ?_
    refine wn ?_
    rw [u8_any] at mm
    have hle : (g0 ++ [UInt8.ofNat x.es.length]).length = g0.length + 1 := by rw [List.length_append]; rfl
    have mm := hfx (g0 ++ [UInt8.ofNat x.es.length]) (mm.pk [0, 1] (by decide)) hle.symm (by rw [u8s_append]; rfl)
    have hq' : g0 ++ [UInt8.ofNat x.es.length] ++ evsB x.es = B := by rw [← hB', List.append_assoc]; rfl
    generalize g0 ++ [UInt8.ofNat x.es.length] = q at *
    refine c_sreg rfl ?_
    refine s1 (r_asi rfl) ?_
    refine wn ?_
    refine c_block ?_
    refine c_loop (fun k e w' => ∃ i ao co, k + i = x.es.length ∧ e 1 = .pointer (some ⟨b2, 0, none⟩) ∧ e 4 = .slice ao (q ++ evsB (x.es.take i)).length co ∧ Mem w No w' [bk b2 (recV x a cap) 40, own 5 1 ao (q ++ evsB (x.es.take i)).length co (u8s (q ++ evsB (x.es.take i)))] ∧ e 6 = .int .i64 (i : Nat)) x.es.length ?_ ?_
    · have e0 : evsB (x.es.take 0) = [] := rfl
      refine ⟨0, a10, c10, rfl, h1, ?_, ?_, rfl⟩
      · rw [e0, List.append_nil, hle]; rfl
      · rw [e0, List.append_nil]; exact mm
    clear mm h1 h4
    rintro k e w2 ⟨i, ao, co, hki, h1, h4, mm, h6⟩
    refine c_seq ?_
    refine c_sreg rfl ?_
    refine s1 (r_mvi h6) ?_
    refine s1 (r_fa h1) ?_
    refine s1 (r_ld rfl (mm.b 0 rfl) rfl) ?_
    refine s1 (r_len rfl) ?_
    refine s1 (r_lt rfl rfl) ?_
    refine wn ?_
    refine c_cond rfl (fun h => (c_skip (t_n ?_))) (fun h => (c_exit (t_x (t_x (b_x (b_n (t_n ?_)))))))
    · have hi : i < x.es.length := by simp at h; omega
      clear h
      have hyz := ok.es x.es[i] (List.getElem_mem hi)
      have hyl := putE_le x.es[i] (evMay_ok hyz)
      have hel := evsB_len (l := x.es.take i) (fun y hy => ok.es y (List.mem_of_mem_take hy))
      rw [List.length_take] at hel
      have hel2 : (q ++ evsB (x.es.take i)).length ≤ 190000 := by rw [List.length_append]; omega
      refine c_seq ?_
      refine c_block ?_
      refine c_sreg rfl ?_
      refine s1 (r_fa h1) ?_
      refine s1 (r_ld rfl (mm.b 0 rfl) rfl) ?_
      refine s1 (r_mvi h6) ?_
      refine s1 (r_ix rfl rfl (by omega) (by omega) (evs_some H hi)) ?_
      refine s1 (r_ldce rfl (mm.ro H) (seg_evs x.es i hi) (evs_le x.es i hi) (by decide)) ?_
      refine so (o_c1 rfl (c_put6y x.es[i] hyz _) ?_)
      rintro _ w11 ⟨a11, c11, rfl, hc, hn⟩
      have mm := mm.new hc hn
      refine s1 (r_mvu rfl) ?_
      refine s1 (r_exts rfl rfl) ?_
      refine s1 (r_exti rfl rfl) ?_
      refine s1 (r_ass rfl) ?_
      refine s1 (r_asi rfl) ?_
      refine wn ?_
      refine c_region rfl ?_
      refine s1 (r_mvs h4) ?_
      refine s1 (r_mvs rfl) ?_
      refine so (o_ap mm 1 rfl rfl rfl (src_own mm 2 rfl (ones_u8s _)) (by omega) (by unfold maxLen; omega) fun a12 c12 w12 mm => ?_)
      refine s1 (r_ass rfl) ?_
      refine wn (b_n (t_n ?_))
      have mm := hfx (q ++ evsB (x.es.take (i + 1))) (mm.pk [0, 1] (by decide)) (by rw [evsB_succ _ _ hi, len3]) (by rw [evsB_succ _ _ hi, u8s3])
      refine c_region rfl ?_
      refine s1 (r_mvi h6) ?_
      refine s1 (r_add rfl rfl (wi (by omega) (by omega))) ?_
      refine s1 (r_asi rfl) ?_
      refine wn (t_n ?_)
      refine ⟨k - 1, by omega, i + 1, _, _, by omega, h1, ?_, mm, rfl⟩
      rw [evsB_succ _ _ hi, len3]; rfl
    have hi : i = x.es.length := by simp at h; omega
    subst hi
    rw [List.take_length, hq'] at mm h4
    exact ⟨_, _, h1, h4, mm⟩
  clear mm
  rintro e w1 ⟨ao, co, h1, h4, mm⟩
  have hv := vput_len10 B.length (by omega)
  have hput : putF x = sealL (vput B.length ++ B) := by unfold putF; rw [hB]
  have hls := sealL_length (vput B.length ++ B)
  rw [List.length_append] at hls
  refine c_sreg rfl ?_
  refine s1 (r_mvs h4) ?_
  refine s1 (r_len rfl) ?_
  refine s1 (r_cv rfl (wu64n (by omega) (by omega))) ?_
  refine so (o_c1 rfl (c_vput1 B.length (by omega) _) ?_)
  rintro _ w13 ⟨a13, c13, rfl, hc, hn⟩
  have mm := mm.new hc hn
  refine s1 (r_mvs h4) ?_
  refine so (o_ap mm  2 rfl rfl rfl (src_own mm 1 rfl (ones_u8s _)) (by omega) (by unfold maxLen; omega) fun a14 c14 w14 mm => ?_)
  refine so (o_c1 rfl (c_seal2 (vput B.length ++ B) (by rw [List.length_append]; omega) _ _ ⟨_, _, by rw [List.length_append]; rfl, by rw [List.length_append]; exact own_le (mm.o 2 rfl), by rw [u8s_append]; exact mm.c 2 rfl⟩) ?_)
  rintro _ w15 ⟨a15, c15, rfl, hc, hn⟩
  have mm := mm.new hc hn
  refine s1 (r_ass rfl) ?_
  refine s1 (r_asi rfl) ?_
  refine wn ?_
  rw [hput]
  exact c_ret (ret2 rfl rfl rfl ⟨_, _, rfl, mm.chg, mm.isNew 3 rfl⟩)
end Go.Proofs.Ytbcpabfemejlgaa
/- Pointers held against nil. -/
namespace Go.Proofs.Ytbcpabfemejlgaa
namespace K

variable {P : Program} {e : Env} {w : World} {d : Option Nat} {ty : Nat} {pos : String} {af : Array Edge} {g : Option (Nat × Bool)}
theorem r_pnil {t t' : Nat} {el : TypeId} {x y : Operand} {p : Option Addr} (hp : P.underlying t = some (.pointer el)) (hx : ev e x = .pointer p) (hy : ev e y = .pointer none) : (execOp (ev e) ⟨d, .binOp .eql t x y t', ty, pos, af, g⟩).run P w = .ok (.value (.bool p.isNone)) w := by
  have h1 := run_eql_pointer_nil (P := P) w t p (by unfold Program.pointee; rw [hp])
  simp only [execOp, hx, hy, eqGuard, Sem.run_bind]
  simp [h1]
theorem r_pnn {t t' : Nat} {el : TypeId} {x y : Operand} {p : Option Addr} (hp : P.underlying t = some (.pointer el)) (hx : ev e x = .pointer p) (hy : ev e y = .pointer none) : (execOp (ev e) ⟨d, .binOp .neq t x y t', ty, pos, af, g⟩).run P w = .ok (.value (.bool (!p.isNone))) w := by
  have h1 := run_neq_pointer_nil (P := P) w t p (by unfold Program.pointee; rw [hp])
  simp only [execOp, hx, hy, eqGuard, Sem.run_bind]
  simp [h1]
theorem r_bneq {t t' : Nat} {x y : Operand} {b b' : Bool} (hp : P.underlying t = some .bool) (hx : ev e x = .bool b) (hy : ev e y = .bool b') : (execOp (ev e) ⟨d, .binOp .neq t x y t', ty, pos, af, g⟩).run P w = .ok (.value (.bool (!(b == b')))) w := by
  have h1 := run_neq_bool (P := P) w t b b' hp
  simp only [execOp, hx, hy, eqGuard, Sem.run_bind]
  simp [h1]
end K
end Go.Proofs.Ytbcpabfemejlgaa
/- kithlaw20.shown, and what the laws need of a hub. -/
namespace Go.Proofs.Ytbcpabfemejlgaa
open K
set_option maxRecDepth 100000
set_option maxHeartbeats 4000000

theorem c_hbTakeE {N : Nat} (c : Cf) (hN : c.n = N) (z : HL) {st st' : Hb} {b out : List UInt8} {to cd : Int} (h : hbTake c st b = (st', to, out, cd)) (okP : st.up = true → PoOk N c.w st.po) (hb : b.length ≤ 1099511627776) (v : Value) (hl : st.d.b.length ≤ 100000000) (w : World) (hI : (hbI c z st).holds w) (hs : Sl w v b) :
    Cl Try.prog 13 #[.pointer (some ⟨z.q, 0, none⟩), v] w
      (fun r w' => ∃ z' a' c', z'.q = z.q ∧ r = .tuple #[.int .i64 to, .slice a' out.length c', .int .i64 cd] ∧ Mem w (hbI c z st).foot w' [hbI c z' st', own 5 1 a' out.length c' (u8s out)]) := by
  have hT := c_hbTake c hN z st okP b hb v hl w hI hs
  rw [h] at hT
  exact hT
theorem c_fTakeQ {b : List UInt8} {x : Rec} {cd : Int} (h : takeF b = (x, cd)) (hb : b.length ≤ 1099511627776) (v : Value) (w : World) (hs : Sl w v b) : Cl Try.prog 14 #[v] w
    (fun r w' => ∃ a' c', r = .tuple #[.agg (recV x a' c').toArray, .int .i64 cd] ∧ Chg No w w' ∧ NewR w w' a' c' x.es) := by
  have hT := c_fTake b hb v w hs
  rw [h] at hT
  exact hT
theorem frPut_put {x : Rec} (h : frMay x = true) : frPut x = putF x := by unfold frPut; rw [if_pos h]
theorem takeF_frPut {x : Rec} (h : frMay x = true) : takeF (frPut x) = (x, 0) := by rw [frPut_put h]; exact takeF_put h
theorem frPut_len (x : Rec) : (frPut x).length ≤ 2048 := by
  by_cases h : frMay x = true
  · exact (takeF_ok (b := frPut x) (by rw [takeF_frPut h])).1
  · have h : frMay x = false := by simpa using h
    unfold frPut; rw [h]; exact Nat.zero_le _
theorem hbTake_put {c : Cf} {st : Hb} {x : Rec} (hu : st.up = true) (hm : frMay x = true) (hr : x.r < c.n) : hbTake c st (frPut x) = if (hbReply c st x).2.2 ≠ 0 ∨ (hbReply c st x).2.1.kind = 0 then ((hbReply c st x).1, -1, [], (hbReply c st x).2.2) else ((hbReply c st x).1, x.r, frPut { (hbReply c st x).2.1 with r := x.r }, 0) := by
  unfold hbTake
  rw [hu, if_neg (by decide), takeF_frPut hm]
  rw [if_neg (by simp), if_neg (by show ¬ c.n ≤ x.r; omega)]
theorem hbTake_down {c : Cf} {st : Hb} {b : List UInt8} (hu : st.up = false) : hbTake c st b = (st, -1, [], 18) := by
  unfold hbTake; rw [if_pos hu]
theorem takeF_nil : takeF [] = (rec0, 4) := by decide
theorem hbTake_nil {c : Cf} {st : Hb} (hu : st.up = true) : hbTake c st [] = (st, -1, [], 4) := by
  unfold hbTake; rw [hu, if_neg (by decide), takeF_nil]; rfl
def st0 (n : Nat) : Hb := ⟨true, poNew n, ⟨[], false, none⟩⟩
theorem shown_take : hbTake ⟨2, 1, 1, 2, 1, 1⟩ (st0 2) (frPut ⟨3, 1, 0, clk0, []⟩) = (st0 2, 1, frPut ⟨4, 1, 0, clk0, []⟩, 0) := by
  rw [hbTake_put rfl (by decide) (by decide)]
  rfl
theorem c_shown20 (w : World) : Cl Try.prog 6 #[] w (fun v w' => v = .bool true ∧ Chg No w w') := by
  have ok2 : PoOk 2 1 (poNew 2) := poNew_ok (by decide) (by decide) (by decide) (by decide)
  refine f_enter (args := []) Try.func6 rfl rfl ?_
  have mm := Mem.nil No w
  refine c_sreg rfl ?_
  refine s1 (r_asb rfl) ?_
  refine wn ?_
  refine c_sreg rfl ?_
  refine s1 (r_bd (bi rfl (bi rfl (bi rfl (bi rfl (bi rfl (bi rfl bN)))))) rfl) ?_
  refine so (o_c1 rfl (c_hbNew ⟨2, 1, 1, 2, 1, 1⟩ 2 rfl (by decide) (by decide) _) ?_)
  rintro _ w2 ⟨z, rfl, hc, hn⟩
  have mm := mm.new hc hn
  refine s1 (r_mvu rfl) ?_
  refine s1 (r_extp rfl rfl) ?_
  refine s1 (r_exti rfl rfl) ?_
  refine s1 (r_asp rfl) ?_
  refine s1 (r_asi rfl) ?_
  refine wn ?_
  refine c_seq ?_
  refine c_sreg rfl ?_
  refine s1 (r_mvp rfl) ?_
  refine s1 (r_pnil Try.underlying25 rfl rfl) ?_
  refine s1 (r_mvb rfl) ?_
  refine sF rfl rfl (fun h => r_mvi rfl) ?_
  refine sF rfl rfl (fun h => r_ne (sel_t h :) rfl) ?_
  refine s1 (r_or rfl rfl) ?_
  refine wn ?_
  refine c_cond rfl (fun h => ?_) (fun h => (c_skip (t_n ?_)))
  · cases h
  clear h
  refine c_sreg rfl ?_
  refine s1 (r_mvp rfl) ?_
  refine so (o_c2 rfl rfl (c_hbTakeE ⟨2, 1, 1, 2, 1, 1⟩ (N := 2) rfl z (hbTake_nil rfl) (fun _ ↦ ok2) (Nat.zero_le _) _ (Nat.zero_le _) _ (mm.h 0 rfl) ⟨none, 0, rfl, Nat.le_refl _, Cells.nil _ _⟩) ?_)
  rintro _ w3 ⟨z1, a1, c1, hz1, rfl, hm⟩
  have mm := mm.liftL 0 rfl hm
  refine s1 (r_mvu rfl) ?_
  refine s1 (r_exti rfl rfl) ?_
  refine s1 (r_exts rfl rfl) ?_
  refine s1 (r_exti rfl rfl) ?_
  refine s1 (r_asi rfl) ?_
  refine s1 (r_ass rfl) ?_
  refine s1 (r_asi rfl) ?_
  refine wn ?_
  refine c_sreg rfl ?_
  refine s1 (r_bd (bi rfl (bi rfl bN)) rfl) ?_
  refine so (o_c1 rfl (c_put07 ⟨3, 1, 0, clk0, []⟩ (a := none) (cap := 0) _ (Cells.nil _ _) clk0_w (Nat.zero_le _)) ?_)
  rintro _ w4 ⟨a2, c2, rfl, hc, hn⟩
  have mm := mm.new hc hn
  refine s1 (r_mvu rfl) ?_
  refine s1 (r_exts rfl rfl) ?_
  refine s1 (r_exti rfl rfl) ?_
  refine s1 (r_ass rfl) ?_
  refine s1 (r_asi rfl) ?_
  refine wn ?_
  rw [← hz1]
  have mm : Mem w No _ [hbI ⟨2, 1, 1, 2, 1, 1⟩ z1 (st0 2), own 5 1 a2 (frPut ⟨3, 1, 0, clk0, []⟩).length c2 (u8s (frPut ⟨3, 1, 0, clk0, []⟩))] := mm.pk [0, 2] (by decide)
  have hT := fun (v : Value) (w' : World) h1 h2 => c_hbTakeE ⟨2, 1, 1, 2, 1, 1⟩ (N := 2) rfl z1 shown_take (fun _ => ok2) (by have := frPut_len ⟨3, 1, 0, clk0, []⟩; omega) v (Nat.zero_le _) w' h1 h2
  have hF := fun (v : Value) (w' : World) h1 => c_fTakeQ (takeF_frPut (x := ⟨4, 1, 0, clk0, []⟩) (by decide)) (by have := frPut_len ⟨4, 1, 0, clk0, []⟩; omega) v w' h1
  generalize frPut ⟨3, 1, 0, clk0, []⟩ = B3 at mm hT ⊢
  generalize frPut ⟨4, 1, 0, clk0, []⟩ = B4 at hT hF
  refine c_sreg rfl ?_
  refine s1 (r_mvp rfl) ?_
  refine s1 (r_mvs rfl) ?_
  refine so (o_c2 rfl rfl (hT _ _ (mm.h 0 rfl) (Sl.own mm 1 rfl)) ?_)
  rintro _ w5 ⟨z2, a3, c3, hz2, rfl, hm⟩
  have mm := mm.liftL 0 rfl hm
  refine s1 (r_mvu rfl) ?_
  refine s1 (r_exti rfl rfl) ?_
  refine s1 (r_exts rfl rfl) ?_
  refine s1 (r_exti rfl rfl) ?_
  refine s1 (r_asi rfl) ?_
  refine s1 (r_ass rfl) ?_
  refine s1 (r_asi rfl) ?_
  refine wn ?_
  refine c_sreg rfl ?_
  refine s1 (r_mvs rfl) ?_
  refine so (o_c1 rfl (hF _ _ (Sl.own mm 2 rfl)) ?_)
  rintro _ w6 ⟨a4, c4, rfl, hc, hn⟩
  have mm := mm.new hc hn
  refine s1 (r_mvu rfl) ?_
  refine s1 (r_extg rfl rfl) ?_
  refine s1 (r_exti rfl rfl) ?_
  refine so (o_al mm fun b7 w7 mm => ?_)
  refine ss (o_sta mm 4 rfl rfl rfl rfl rfl (Nat.le_of_ble_eq_true rfl) fun w8 mm => ?_)
  refine s1 (r_asi rfl) ?_
  refine wn ?_
  have mm : Mem w No _ [bk b7 (recV ⟨4, 1, 0, clk0, []⟩ a4 c4) 40] := mm.pk [4] (by decide)
  refine c_sreg rfl ?_
  refine s1 (r_mvi rfl) ?_
  refine s1 (r_eq rfl rfl) ?_
  refine s1 (r_mvb rfl) ?_
  refine sT rfl rfl (fun h => r_mvi rfl) ?_
  refine sT rfl rfl (fun h => r_eq (sel_t h :) rfl) ?_
  refine s1 (r_and rfl rfl) ?_
  refine s1 (r_mvb rfl) ?_
  refine sT rfl rfl (fun h => r_mvi rfl) ?_
  refine sT rfl rfl (fun h => r_eq (sel_t h :) rfl) ?_
  refine s1 (r_and rfl rfl) ?_
  refine s1 (r_mvb rfl) ?_
  refine sT rfl rfl (fun h => r_mvi rfl) ?_
  refine sT rfl rfl (fun h => r_eq (sel_t h :) rfl) ?_
  refine s1 (r_and rfl rfl) ?_
  refine s1 (r_mvb rfl) ?_
  refine sT rfl rfl (fun h => r_mvi rfl) ?_
  refine sT rfl rfl (fun h => r_eq (sel_t h :) rfl) ?_
  refine s1 (r_and rfl rfl) ?_
  refine s1 (r_mvb rfl) ?_
  refine sT rfl rfl (fun h => r_fa rfl) ?_
  refine sT rfl rfl (fun h => r_ld (sel_t h :) (mm.b 0 rfl) rfl) ?_
  refine sT rfl rfl (fun h => r_eq (sel_t h :) rfl) ?_
  refine s1 (r_and rfl rfl) ?_
  refine s1 (r_mvb rfl) ?_
  refine sT rfl rfl (fun h => r_fa rfl) ?_
  refine sT rfl rfl (fun h => r_ld (sel_t h :) (mm.b 0 rfl) rfl) ?_
  refine sT rfl rfl (fun h => r_len (sel_t h :)) ?_
  refine sT rfl rfl (fun h => r_eq (sel_t h :) rfl) ?_
  refine s1 (r_and rfl rfl) ?_
  refine s1 (r_mvb rfl) ?_
  refine sT rfl rfl (fun h => r_fa rfl) ?_
  refine sT rfl rfl (fun h => r_ld (sel_t h :) (mm.b 0 rfl) rfl) ?_
  refine sT rfl rfl (fun h => r_eq (sel_t h :) rfl) ?_
  refine s1 (r_and rfl rfl) ?_
  refine s1 (r_asb rfl) ?_
  refine wn ?_
  exact c_ret (ret1 rfl rfl ⟨rfl, mm.chg⟩)
end Go.Proofs.Ytbcpabfemejlgaa
/- How two hubs stand, compared; a config that is handed in. -/
namespace Go.Proofs.Ytbcpabfemejlgaa
open K
set_option maxRecDepth 100000
theorem hs_guard : Try.prog.eqGuardType Try.prog.depth 34 = false := by kernel_rfl
theorem hs_key : Try.prog.keyTypeAt 4 34 = true := by kernel_rfl
theorem cellsA5 : Try.prog.cellsOf 32 = 25 := by kernel_rfl
theorem cellsHS : Try.prog.cellsOf 34 = 36 := by kernel_rfl
theorem cellsB : Try.prog.cellsOf 4 = 1 := by kernel_rfl
structure HsW (x : HS) : Prop where
  base : ClkW x.base
  len : ClkW x.len
  al : x.acks.length = 5
  aw : ∀ c ∈ x.acks, ClkW c
def clkL (c : Clk) : List Lit := [.int .i64 c.c0, .int .i64 c.c1, .int .i64 c.c2, .int .i64 c.c3, .int .i64 c.c4]
theorem clkL_inj {a b : Clk} : clkL a = clkL b ↔ a = b := by cases a; cases b; simp [clkL]
theorem lit_clkL {D : Nat} {c : Clk} (h : ClkW c) : Try.prog.keyLits (D + 2) 31 (clkC c) = some (clkL c) := lit_clk h.1 h.2.1 h.2.2.1 h.2.2.2.1 h.2.2.2.2
theorem lit_bool {D : Nat} {b : Bool} : Try.prog.keyLits (D + 1) 4 [.bool b] = some [.bool b] := by
  unfold Program.keyLits
  rw [Try.underlying4]
theorem lit_arr5 {D : Nat} {a b c d e : Clk} (ha : ClkW a) (hb : ClkW b) (hc : ClkW c) (hd : ClkW d) (he : ClkW e) : Try.prog.keyLits (D + 3) 32 (acksC [a, b, c, d, e]) = some (clkL a ++ (clkL b ++ (clkL c ++ (clkL d ++ clkL e)))) := by
  unfold Program.keyLits
  rw [Try.underlying32]
  simp only [cells23, cellsA5]
  rw [if_pos (show (acksC [a, b, c, d, e]).length = 25 from rfl)]
  have h0 : ((acksC [a, b, c, d, e]).drop (0 * 5)).take 5 = clkC a := rfl
  have h1 : ((acksC [a, b, c, d, e]).drop (1 * 5)).take 5 = clkC b := rfl
  have h2 : ((acksC [a, b, c, d, e]).drop (2 * 5)).take 5 = clkC c := rfl
  have h3 : ((acksC [a, b, c, d, e]).drop (3 * 5)).take 5 = clkC d := rfl
  have h4 : ((acksC [a, b, c, d, e]).drop (4 * 5)).take 5 = clkC e := rfl
  show Option.map _ (List.mapM (m := Option) _ [0, 1, 2, 3, 4]) = _
  simp only [List.mapM_cons, List.mapM_nil, h0, h1, h2, h3, h4, lit_clkL ha, lit_clkL hb, lit_clkL hc, lit_clkL hd, lit_clkL he]
  rfl
def hsL (x : HS) : List Lit := .bool x.up :: (clkL x.base ++ (clkL x.len ++ x.acks.flatMap clkL))
theorem hs_lits (x : HS) (h : HsW x) : Try.prog.keyLits 4 34 (hsC x) = some (hsL x) := by
  obtain ⟨up, base, len, acks⟩ := x
  obtain ⟨hb, hl, ha, hw⟩ := h
  obtain ⟨c0, c1, c2, c3, c4, rfl⟩ := list5 ha
  unfold Program.keyLits
  rw [Try.underlying34]
  simp only [cellsB, cells23, cellsA5, cellsHS]
  rw [if_pos ⟨show (hsC _).length = 36 from rfl, by kernel_rfl⟩]
  have h0 : ((hsC ⟨up, base, len, [c0, c1, c2, c3, c4]⟩).drop 0).take 1 = [.bool up] := rfl
  have h1 : ((hsC ⟨up, base, len, [c0, c1, c2, c3, c4]⟩).drop 1).take 5 = clkC base := rfl
  have h2 : ((hsC ⟨up, base, len, [c0, c1, c2, c3, c4]⟩).drop 6).take 5 = clkC len := rfl
  have h3 : ((hsC ⟨up, base, len, [c0, c1, c2, c3, c4]⟩).drop 11).take 25 = acksC [c0, c1, c2, c3, c4] := rfl
  have h5 := lit_arr5 (D := 0) (hw c0 (by simp)) (hw c1 (by simp)) (hw c2 (by simp)) (hw c3 (by simp)) (hw c4 (by simp))
  simp only [List.mapM_cons, List.mapM_nil, cellsB, cells23, cellsA5, h0, h1, h2, h3, lit_bool, lit_clkL hb, lit_clkL hl, h5]
  show some _ = some _
  simp [hsL]
theorem hs_iff (x y : HS) (hx : x.acks.length = 5) (hy : y.acks.length = 5) : hsL x = hsL y ↔ x = y := by
  constructor
  · intro h
    obtain ⟨u, b, l, a⟩ := x
    obtain ⟨u', b', l', a'⟩ := y
    obtain ⟨c0, c1, c2, c3, c4, rfl⟩ := list5 hx
    obtain ⟨d0, d1, d2, d3, d4, rfl⟩ := list5 hy
    cases b; cases b'; cases l; cases l'; cases c0; cases c1; cases c2; cases c3; cases c4; cases d0; cases d1; cases d2; cases d3; cases d4
    simp [hsL, clkL] at h
    simp [h]
  · intro h; rw [h]
theorem hs_formed (x : HS) (h : x.acks.length = 5) : (Value.agg (hsC x).toArray).formed Try.prog 34 = true := by
  obtain ⟨up, base, len, acks⟩ := x
  obtain ⟨c0, c1, c2, c3, c4, rfl⟩ := list5 h
  kernel_rfl
instance : DecidableEq HS := fun a b => by
  cases a; cases b
  rw [HS.mk.injEq]
  infer_instance
theorem hs_eq (x y : HS) (hx : HsW x) (hy : HsW y) (w : World) : (Op.equalIn 10000 34 (.agg (hsC x).toArray) (.agg (hsC y).toArray)).run Try.prog w = .ok (decide (x = y)) w :=
  run_eqa hs_key (by decide) (hs_formed x hx.al) (hs_formed y hy.al) (hs_lits x hx) (hs_lits y hy) (hs_iff x y hx.al hy.al)
end Go.Proofs.Ytbcpabfemejlgaa
/- kithlaw20.HubNew: the walk. -/
namespace Go.Proofs.Ytbcpabfemejlgaa
open K
set_option maxRecDepth 100000
set_option maxHeartbeats 4000000

def hs1 : HS := ⟨true, clk0, clk0, List.replicate 5 clk0⟩
theorem site_new : ∀ n, n ≤ 5 → poSite (poNew n) = hs1
  | 0, _ => rfl | 1, _ => rfl | 2, _ => rfl | 3, _ => rfl | 4, _ => rfl | 5, _ => rfl
  | n + 6, h => absurd h (by omega)
theorem hs1_w : HsW hs1 := ⟨clk0_w, clk0_w, rfl, fun c hc => by rw [List.eq_of_mem_replicate hc]; exact clk0_w⟩
theorem hs0_w : HsW hs0 := ⟨clk0_w, clk0_w, rfl, fun c hc => by rw [List.eq_of_mem_replicate hc]; exact clk0_w⟩
theorem c_HubNew (c : Cf) (w : World) : Cl Try.prog 3 #[.agg (cfC c).toArray] w (fun r w' => r = .bool true ∧ Chg No w w') := by
  have hMA := fun (w' : World) => c_may11 c w'
  refine f_enter (args := [_]) Try.func3 rfl rfl ?_
  have mm := Mem.nil No w
  refine c_sreg rfl ?_
  refine so (o_bxa mm rfl fun b2 w2 mm => ?_)
  refine s1 (r_asb rfl) ?_
  refine wn ?_
  refine c_sreg rfl ?_
  refine so (o_c0 (c_shown20 _) ?_)
  rintro _ w3 ⟨rfl, hc⟩
  have mm := mm.frame hc
  refine s1 (r_asb rfl) ?_
  refine wn ?_
  cases hm : cfMay c with
  | false =>
    rw [hm] at hMA
    refine c_sreg rfl ?_
    refine s1 (r_lda rfl (mm.b 0 rfl) rfl) ?_
    refine so (o_c1 rfl (c_hbNew0 c hm _) ?_)
    rintro _ w4 ⟨rfl, hc⟩
    have mm := mm.frame hc
    refine s1 (r_mvu rfl) ?_
    refine s1 (r_extp rfl rfl) ?_
    refine s1 (r_exti rfl rfl) ?_
    refine s1 (r_asp rfl) ?_
    refine s1 (r_asi rfl) ?_
    refine wn ?_
    refine c_seq ?_
    refine c_sreg rfl ?_
    refine s1 (r_lda rfl (mm.b 0 rfl) rfl) ?_
    refine so (o_c1 rfl (hMA _) ?_)
    rintro _ w5 ⟨rfl, hc⟩
    have mm := mm.frame hc
    refine s1 (r_not rfl) ?_
    refine wn ?_
    refine c_cond rfl (fun h => ?_) (fun h => (c_skip (t_n ?_)))
    rotate_left
    · cases h
    clear h
    refine c_sreg rfl ?_
    refine s1 (r_mvb rfl) ?_
    refine s1 (r_mvb rfl) ?_
    refine sT rfl rfl (fun h => r_mvp rfl) ?_
    refine sT rfl rfl (fun h => r_pnil Try.underlying25 (sel_t h :) rfl) ?_
    refine s1 (r_and rfl rfl) ?_
    refine s1 (r_mvb rfl) ?_
    refine sT rfl rfl (fun h => r_mvi rfl) ?_
    refine sT rfl rfl (fun h => r_eq (sel_t h :) rfl) ?_
    refine s1 (r_and rfl rfl) ?_
    refine s1 (r_asb rfl) ?_
    refine wn ?_
    exact c_ret (ret1 rfl rfl ⟨rfl, mm.chg⟩)
  | true =>
    rw [hm] at hMA
    obtain ⟨n, hn, n1, n5, hW1, hW4⟩ := cf_n hm
    refine c_sreg rfl ?_
    refine s1 (r_lda rfl (mm.b 0 rfl) rfl) ?_
    refine so (o_c1 rfl (c_hbNew c n hn n5 hm _) ?_)
    rintro _ w6 ⟨z, rfl, hc, hn1⟩
    have mm := mm.new hc hn1
    refine s1 (r_mvu rfl) ?_
    refine s1 (r_extp rfl rfl) ?_
    refine s1 (r_exti rfl rfl) ?_
    refine s1 (r_asp rfl) ?_
    refine s1 (r_asi rfl) ?_
    refine wn ?_
    refine c_seq ?_
    refine c_sreg rfl ?_
    refine s1 (r_lda rfl (mm.b 0 rfl) rfl) ?_
    refine so (o_c1 rfl (hMA _) ?_)
    rintro _ w7 ⟨rfl, hc⟩
    have mm := mm.frame hc
    refine s1 (r_not rfl) ?_
    refine wn ?_
    refine c_cond rfl (fun h => ?_) (fun h => (c_skip (t_n ?_)))
    · cases h
    clear h
    refine c_seq ?_
    refine c_sreg rfl ?_
    refine s1 (r_mvp rfl) ?_
    refine s1 (r_pnil Try.underlying25 rfl rfl) ?_
    refine wn ?_
    refine c_cond rfl (fun h => ?_) (fun h => (c_skip (t_n ?_)))
    · cases h
    clear h
    have hS := fun (w' : World) h1 => c_hbSite c z ⟨true, poNew n, ⟨[], false, none⟩⟩ (fun _ => poNew_ok n1 n5 hW1 hW4) w' h1
    rw [show hbSite ⟨true, poNew n, ⟨[], false, none⟩⟩ = hs1 from site_new n n5] at hS
    refine c_sreg rfl ?_
    refine s1 (r_mvb rfl) ?_
    refine s1 (r_mvb rfl) ?_
    refine sT rfl rfl (fun h => r_mvi rfl) ?_
    refine sT rfl rfl (fun h => r_eq (sel_t h :) rfl) ?_
    refine s1 (r_and rfl rfl) ?_
    refine s1 (r_mvb rfl) ?_
    refine s1k rfl (show _ = Value.bool true from rfl) (r_mvp rfl) ?_
    refine sok rfl (show _ = Value.bool true from rfl) (o_c1 rfl (hS _ (mm.h 1 rfl)) ?_)
    rintro _ w8 ⟨rfl, hc⟩
    have mm := mm.frame hc
    refine s1k rfl (show _ = Value.bool true from rfl) (r_bd (bb rfl bN) rfl) ?_
    refine s1k rfl (show _ = Value.bool true from rfl) (r_eqa hs_guard (hs_eq hs1 hs1 hs1_w hs1_w) rfl rfl) ?_
    refine s1 (r_and (show _ = Value.bool true from rfl) rfl) ?_
    refine s1 (r_asb rfl) ?_
    refine wn ?_
    exact c_ret (ret1 (v := .bool (true && decide (hs1 = hs1))) rfl rfl ⟨by simp, mm.chg⟩)
end Go.Proofs.Ytbcpabfemejlgaa
/- kithlaw20.push: plain, and the walk. -/
namespace Go.Proofs.Ytbcpabfemejlgaa
open K
set_option maxRecDepth 100000
set_option maxHeartbeats 4000000

def pev (r : Nat) (n : Int) : Ev := ⟨r, n, clk0.set r (n - 1), n, 1, [99, 121], 0, []⟩
def pevs (r : Nat) (f : Int) (k : Nat) : List Ev := (List.range k).map fun i => pev r (f + (i : Nat))
def pfr (r : Nat) (f : Int) (k : Nat) : Rec := ⟨1, r, 0, clk0, pevs r f k⟩
theorem pevs_len (r : Nat) (f : Int) (k : Nat) : (pevs r f k).length = k := by simp [pevs]
theorem pevs_succ (r : Nat) (f : Int) (k : Nat) : pevs r f (k + 1) = pevs r f k ++ [pev r (f + (k : Nat))] := by simp [pevs, List.range_succ]
structure Opv where
  kind : Nat
  r : Nat
  many : Nat
  back : Nat
  c : Clk
  keep : Int
  bit : Int
  mask : Nat
def opC (o : Opv) : List Value := .int .u8 (o.kind : Nat) :: .int .u8 (o.r : Nat) :: .int .u8 (o.many : Nat) :: .int .u8 (o.back : Nat) :: .int .i64 o.c.c0 :: .int .i64 o.c.c1 :: .int .i64 o.c.c2 :: .int .i64 o.c.c3 :: .int .i64 o.c.c4 :: [.int .i64 o.keep, .int .i64 o.bit, .int .u32 (o.mask : Nat)]
def opFrom (len : Int) (o : Opv) : Int := max (len + 1 - ((o.back % 3 : Nat) : Int)) 1
theorem K.Mem.castP {w0 w : World} {F0 : Nat → Prop} {I J : It} {b : Nat} {cs cs' ds ds' : List Value} {T T' : TypeId} {sz n n' c : Nat} {a : Option Addr} (h : Mem w0 F0 w [I, J, bk b cs T, own T' sz a n c ds]) (hc : cs = cs') (hn : n = n') (hd : ds = ds') : Mem w0 F0 w [I, J, bk b cs' T, own T' sz a n' c ds'] := by subst hc; subst hn; subst hd; exact h
theorem c_push (r : Nat) (hr : r < 5) (len : Int) (h0 : 0 ≤ len) (hl : len ≤ 1000000) (o : Opv) (w : World) :
    Cl Try.prog 11 #[.int .i64 (r : Nat), .int .i64 len, .agg (opC o).toArray] w (fun v w' => ∃ a c, v = .agg (recV (pfr r (opFrom len o) (1 + o.many % 5)) a c).toArray ∧ Chg No w w' ∧ NewR w w' a c (pfr r (opFrom len o) (1 + o.many % 5)).es) := by
  have hb3 : o.back % 3 < 3 := Nat.mod_lt _ (by decide)
  have hm5 : o.many % 5 < 5 := Nat.mod_lt _ (by decide)
  generalize hfr : opFrom len o = f
  have hf : 1 ≤ f ∧ f ≤ 1000001 := by subst hfr; unfold opFrom; omega
  refine f_enter (args := [_, _, _]) Try.func11 rfl rfl ?_
  have mm := Mem.nil No w
  refine c_sreg rfl ?_
  refine so (o_bxa mm rfl fun b2 w2 mm => ?_)
  refine so (o_al mm fun b3 w3 mm => ?_)
  refine wn ?_
  refine c_sreg rfl ?_
  refine s1 (r_mvi rfl) ?_
  refine s1 (r_bd (bi rfl (bi rfl bN)) rfl) ?_
  refine so (o_al mm fun b4 w4 mm => ?_)
  refine ss (o_sta mm 2 rfl rfl rfl rfl rfl (Nat.le_of_ble_eq_true rfl) fun w5 mm => ?_)
  refine wn ?_
  refine c_sreg rfl ?_
  refine s1 (r_mvi rfl) ?_
  refine s1 (r_add rfl rfl (wi (by omega) (by omega))) ?_
  refine s1 (r_fa rfl) ?_
  refine s1 (r_ld rfl (mm.b 0 rfl) rfl) ?_
  refine s1 (r_rem rfl rfl (by decide) (show ((o.back : Nat) : Int).tmod 3 = ((o.back % 3 : Nat) : Int) from rfl)) ?_
  refine s1 (r_cv rfl (wi (by omega) (by omega))) ?_
  refine s1 (r_sub rfl rfl (wi (by omega) (by omega))) ?_
  refine s1 (r_max2 rfl rfl) ?_
  refine s1 (r_asi rfl) ?_
  refine wn ?_
  have mm : Mem w No _ [bk b2 (opC o) 44, bk b3 (recV rec0 none 0) 40, bk b4 (recV (pfr r f 0) none 0) 40, own 67 12 none 0 0 []] := mm.nilrow
  have hf20 : max (len + 1 - ((o.back % 3 : Nat) : Int)) 1 = f := hfr
  rw [hf20]
  refine c_seq ?_
  refine c_sreg rfl ?_
  refine s1 (r_mvi (show _ = Value.int .i64 f from rfl)) ?_
  refine s1 (r_asi rfl) ?_
  refine wn ?_
  refine c_block ?_
  refine c_loop (fun kk e w' => ∃ (i : Nat) (ao : Option Addr) (co : Nat), kk + i = 1 + o.many % 5 ∧ e 0 = .int .i64 (r : Nat) ∧ e 5 = .pointer (some ⟨b2, 0, none⟩) ∧ e 6 = .pointer (some ⟨b3, 0, none⟩) ∧ e 7 = .pointer (some ⟨b4, 0, none⟩) ∧ e 8 = .int .i64 f ∧ e 9 = .int .i64 (f + (i : Nat)) ∧ Mem w No w' [bk b2 (opC o) 44, bk b3 (recV rec0 none 0) 40, bk b4 (recV (pfr r f i) ao co) 40, own 67 12 ao (pevs r f i).length co (evsC (pevs r f i))]) (1 + o.many % 5) ?_ ?_
  · exact ⟨0, none, 0, rfl, rfl, rfl, rfl, rfl, rfl, congrArg (Value.int .i64) (Int.add_zero f).symm, mm⟩
  clear mm
  rintro kk e w9 ⟨i, ao, co, hki, h0', h5, h6, h7, h8, h9, mm⟩
  have hpl := pevs_len r f i
  refine c_seq ?_
  refine c_sreg rfl ?_
  refine s1 (r_mvi h9) ?_
  refine s1 (r_mvi h8) ?_
  refine s1 (r_add rfl rfl (wi (by omega) (by omega))) ?_
  refine s1 (r_fa h5) ?_
  refine s1 (r_ld rfl (mm.b 0 rfl) rfl) ?_
  refine s1 (r_rem rfl rfl (by decide) (show ((o.many : Nat) : Int).tmod 5 = ((o.many % 5 : Nat) : Int) from rfl)) ?_
  refine s1 (r_cv rfl (wi (n := ((o.many % 5 : Nat) : Int)) (by omega) (by omega))) ?_
  refine s1 (r_add rfl rfl (wi (by omega) (by omega))) ?_
  refine s1 (r_lt rfl rfl) ?_
  refine wn ?_
  refine c_cond rfl (fun h => (c_skip (t_n ?_))) (fun h => (c_exit (t_x (t_x (b_x (t_n ?_))))))
  · have hi : i < 1 + o.many % 5 := by simp at h; omega
    clear h
    refine c_seq ?_
    refine c_block ?_
    refine c_sreg rfl ?_
    refine s1 (r_mvi h0') ?_
    refine s1 (r_mvi h9) ?_
    refine s1 (r_mvi h9) ?_
    refine s1 (r_bd (bi rfl (bi rfl (bi rfl (bi rfl (bt rfl bN))))) rfl) ?_
    refine so (o_al mm fun b6 w6 mm => ?_)
    refine ss (o_sta mm 4 rfl rfl rfl rfl rfl (Nat.le_of_ble_eq_true rfl) fun w7 mm => ?_)
    refine wn ?_
    have mm : Mem w No _ [bk b2 (opC o) 44, bk b3 (recV rec0 none 0) 40, bk b4 (recV (pfr r f i) ao co) 40, own 67 12 ao (pevs r f i).length co (evsC (pevs r f i)), bk b6 (evC ⟨(r : Nat), f + (i : Nat), clk0, f + (i : Nat), 1, [99, 121], 0, []⟩) 67] := mm
    refine c_sreg rfl ?_
    refine s1 (r_mvi h0') ?_
    refine s1 (r_mvi h9) ?_
    refine s1 (r_sub rfl rfl (wi (by omega) (by omega))) ?_
    refine s1 (r_fa rfl) ?_
    refine s1 (r_ixa rfl rfl (by omega) (by omega)) ?_
    refine ss (o_st mm 4 rfl rfl rfl rfl (blt_evi _ r hr) fun w8 mm => ?_)
    refine wn ?_
    have mm := mm.castL (congrArg (fun u => [bk b2 (opC o) 44, bk b3 (recV rec0 none 0) 40, bk b4 (recV (pfr r f i) ao co) 40, own 67 12 ao (pevs r f i).length co (evsC (pevs r f i)), bk b6 u 67]) (setN_evi ⟨(r : Nat), f + (i : Nat), clk0, f + (i : Nat), 1, [99, 121], 0, []⟩ r hr (f + (i : Nat) - 1)))
    refine c_region rfl ?_
    refine s1 (r_fa h7) ?_
    refine s1 (r_ld rfl (mm.b 2 rfl) rfl) ?_
    refine s1 (r_lda rfl (mm.b 4 rfl) rfl) ?_
    refine so (o_bg mm (bg rfl bN) rfl rfl (by decide) (by decide) (by decide) fun a9 c9 w9 mm => ?_)
    refine so (o_ap mm 3 rfl rfl rfl (src_own mm 5 rfl rfl) (by omega) (by unfold maxLen; omega) fun a10 c10 w10 mm => ?_)
    refine s1 (r_fa h7) ?_
    refine ss (o_st mm 2 rfl rfl rfl rfl rfl fun w11 mm => ?_)
    refine wn (b_n (t_n ?_))
    have hsn : evsC (pevs r f (i + 1)) = evsC (pevs r f i) ++ evC (pev r (f + (i : Nat))) := by rw [pevs_succ, evsC_append]; simp [evsC]
    have hle : (pevs r f (i + 1)).length = (pevs r f i).length + 1 := by rw [pevs_succ, List.length_append]; rfl
    have mm := (mm.pk [0, 1, 2, 3] (by decide)).castP (cs' := recV (pfr r f (i + 1)) _ _) (n' := (pevs r f (i + 1)).length) (ds' := evsC (pevs r f (i + 1))) (by simp only [recV, pfr, hle]; rfl) hle.symm (by rw [hsn]; rfl)
    refine c_region rfl ?_
    refine s1 (r_mvi h9) ?_
    refine s1 (r_add rfl rfl (wi (by omega) (by omega))) ?_
    refine s1 (r_asi rfl) ?_
    refine wn (t_n ?_)
    exact ⟨kk - 1, by omega, i + 1, _, _, by omega, h0', h5, h6, h7, h8, congrArg (Value.int .i64) (by omega), mm⟩
  have hi : i = 1 + o.many % 5 := by simp at h; omega
  clear h
  subst hi
  refine c_sreg rfl ?_
  refine s1 (r_lda h7 (mm.b 2 rfl) rfl) ?_
  refine ss (o_sta mm 1 rfl h6 rfl rfl rfl (Nat.le_of_ble_eq_true rfl) fun w12 mm => ?_)
  refine wn ?_
  have mm : Mem w No _ [own 67 12 ao (pevs r f (1 + o.many % 5)).length co (evsC (pevs r f (1 + o.many % 5))), bk b3 (recV (pfr r f (1 + o.many % 5)) ao co) 40] := mm.pk [3, 1] (by decide)
  exact c_ret (retc rfl h6 (mm.b 1 rfl) rfl ⟨ao, co, rfl, mm.chg, mm.isNew 0 rfl⟩)
end Go.Proofs.Ytbcpabfemejlgaa
