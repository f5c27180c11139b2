/- kithref07.Fit: the walk. -/
import Derived.Test.YtgdbbaggkoillaaFw
import Derived.Test.YtgdbbaggkoillaaFx
import Derived.Test.YtgdbbaggkoillaaRc
namespace Go.Proofs.Ytgdbbaggkoillaa
open K
set_option maxRecDepth 100000
set_option maxHeartbeats 4000000

theorem fitFs_snoc (k r : Int) (l : List Ev) (i : Nat) (h : i < l.length) (hi : i < 20) : fitFs k r (l.take (i + 1)) = fitFs k r (l.take i) ++ [fitFE k r l[i]] := by
  unfold fitFs
  rw [List.take_take, List.take_take, Nat.min_eq_right (by omega), Nat.min_eq_right (by omega), List.take_succ_eq_append_getElem h, List.map_append]; rfl
theorem fitFs_all (k r : Int) (l : List Ev) : fitFs k r (l.take 20) = fitFs k r l := by
  unfold fitFs
  rw [List.take_take, Nat.min_self]
theorem fitFs_len2 (k r : Int) (l : List Ev) (i : Nat) (h : i ≤ l.length) (hi : i ≤ 20) : (fitFs k r (l.take i)).length = i := by
  unfold fitFs
  rw [List.length_map, List.length_take, List.length_take]; omega
theorem K.Mem.castf {w0 w : World} {F0 : Nat → Prop} {I J : It} {b : Nat} {cs cs' ds ds' : List Value} {T T' : TypeId} {sz n n' c : Nat} {a : Option Addr} (h : Mem w0 F0 w [I, J, bk b cs T, own T' sz a n c ds]) (hc : cs = cs') (hn : n = n') (hd : ds = ds') : Mem w0 F0 w [I, J, bk b cs' T, own T' sz a n' c ds'] := by subst hc; subst hn; subst hd; exact h
theorem K.Mem.casty {w0 w : World} {F0 : Nat → Prop} {I J M N : It} {b : Nat} {cs cs' : List Value} {T : TypeId} (h : Mem w0 F0 w [I, J, M, N, bk b cs T]) (hc : cs = cs') : Mem w0 F0 w [I, J, M, N, bk b cs' T] := by subst hc; exact h
theorem c_fit07 (x : Rec) {a : Option Addr} {cap : Nat} (w : World) (H : Cells w a (evsC x.es)) (hin : RecIn x) : Cl Try.prog 38 #[.agg (recV x a cap).toArray] w
    (fun v w' => ∃ a' c', v = .agg (recV (frFit x) a' c').toArray ∧ Chg No w w' ∧ NewR w w' a' c' (frFit x).es) := by
  have hq := tmod_in x.kind 5 (by decide)
  have hq5 := tmod_in x.r 5 (by decide)
  have hk5 := fitK_in x.kind
  have hr := fitR_in x.r
  have hlen := hin.len
  refine f_enter (args := [_]) Try.func38 rfl rfl ?_
  have mm := Mem.nil No w
  refine c_sreg rfl ?_
  refine so (o_bxa mm rfl fun b2 w2 mm => ?_)
  refine so (o_al mm fun b3 w3 mm => ?_)
  refine wn ?_
  refine c_sreg rfl ?_
  refine s1 (r_fa rfl) ?_
  refine s1 (r_ld rfl (mm.b 0 rfl) rfl) ?_
  refine s1 (r_rem rfl rfl (by decide) rfl) ?_
  refine s1 (r_add rfl rfl (wi (by omega) (by omega))) ?_
  refine s1 (r_rem rfl rfl (by decide) rfl) ?_
  refine s1 (r_add rfl rfl (show IntKind.i64.wrap (1 + ((x.kind.tmod 5) + 5).tmod 5) = fitK x.kind from wi (by unfold fitK at hk5; omega) (by unfold fitK at hk5; omega))) ?_
  refine s1 (r_fa rfl) ?_
  refine s1 (r_ld rfl (mm.b 0 rfl) rfl) ?_
  refine s1 (r_rem rfl rfl (by decide) rfl) ?_
  refine s1 (r_add rfl rfl (wi (by omega) (by omega))) ?_
  refine s1 (r_rem rfl rfl (by decide) (show _ = fitR x.r from rfl)) ?_
  refine s1 (r_bd (bi rfl (bi rfl bN)) rfl) ?_
  refine so (o_al mm fun b4 w4 mm => ?_)
  refine ss (o_sta mm 2 rfl rfl rfl rfl rfl (Nat.le_of_ble_eq_true rfl) fun w5 mm => ?_)
  refine wn ?_
  have mm : Mem w No _ [bk b2 (recV x a cap) 47, bk b3 (recV rec0 none 0) 47, bk b4 (recV ⟨fitK x.kind, fitR x.r, 0, clk0, []⟩ none 0) 47] := mm
  have hfr : frFit x = (if fitK x.kind = 2 then ⟨2, fitR x.r, m20 x.upto, clk0, []⟩ else if fitK x.kind = 3 ∨ fitK x.kind = 5 then ⟨fitK x.kind, fitR x.r, 0, fitC x.c, []⟩ else ⟨if (fitFs (fitK x.kind) (fitR x.r) x.es).length = 0 then 4 else fitK x.kind, fitR x.r, 0, clk0, fitFs (fitK x.kind) (fitR x.r) x.es⟩) := rfl
  generalize hk : fitK x.kind = k at *
  generalize hrr : fitR x.r = r at *
  refine c_seq ?_
  refine c_sreg rfl ?_
  refine s1 (r_fa rfl) ?_
  refine s1 (r_ld rfl (mm.b 2 rfl) rfl) ?_
  refine wn ?_
  refine c_mid0 (fun e w' => ∃ a' c', e 1 = .pointer (some ⟨b2, 0, none⟩) ∧ e 2 = .pointer (some ⟨b3, 0, none⟩) ∧ e 3 = .pointer (some ⟨b4, 0, none⟩) ∧ Mem w No w' [bk b2 (recV x a cap) 47, bk b3 (recV rec0 none 0) 47, bk b4 (recV (frFit x) a' c') 47, own 25 12 a' (frFit x).es.length c' (evsC (frFit x).es)]) ?_ ?_
  · refine c_block ?_
    refine c_sreg rfl ?_
    refine s1 (r_eq rfl rfl) ?_
    refine s1 (r_asb rfl) ?_
    refine wn ?_
    refine c_cond rfl (fun h => ?_) (fun h => ?_)
    · have h2 : k = 2 := by simpa using h
      subst h2
      rw [if_pos rfl] at hfr
      refine c_region rfl ?_
      refine s1 (r_fa rfl) ?_
      refine s1 (r_ld rfl (mm.b 0 rfl) rfl) ?_
      refine s1 (r_band rfl rfl rfl) ?_
      refine s1 (r_fa rfl) ?_
      refine ss (o_st mm 2 rfl rfl rfl rfl rfl fun w6 mm => ?_)
      refine wn (b_n (t_n ?_))
      refine ⟨none, 0, rfl, rfl, rfl, ?_⟩
      rw [hfr]
      exact mm.nilrow (T := 25) (sz := 12)
    have h2 : ¬ k = 2 := by simpa using h
    clear h
    rw [if_neg h2] at hfr
    refine c_seq ?_
    refine c_sreg rfl ?_
    refine s1 (r_eq rfl rfl) ?_
    refine s1 (r_asb rfl) ?_
    refine wn ?_
    refine c_mid0 (fun e w' => e 1 = .pointer (some ⟨b2, 0, none⟩) ∧ e 2 = .pointer (some ⟨b3, 0, none⟩) ∧ e 3 = .pointer (some ⟨b4, 0, none⟩) ∧ e 20 = .int .i64 k ∧ e 72 = .bool (decide (k = 3 ∨ k = 5)) ∧ Mem w No w' [bk b2 (recV x a cap) 47, bk b3 (recV rec0 none 0) 47, bk b4 (recV ⟨k, r, 0, clk0, []⟩ none 0) 47]) ?_ ?_
    · refine c_cond rfl (fun h => (c_skip (t_n ?_))) (fun h => ?_)
      · have h3 : k = 3 := by simpa using h
        exact ⟨rfl, rfl, rfl, rfl, by rw [h3]; rfl, mm⟩
      · have h3 : ¬ k = 3 := by simpa using h
        refine c_region rfl ?_
        refine s1 (r_eq rfl rfl) ?_
        refine s1 (r_asb rfl) ?_
        refine wn (t_n ?_)
        refine ⟨rfl, rfl, rfl, rfl, congrArg Value.bool ?_, mm⟩
        simp [h3]
    clear mm
    rintro e w9 ⟨h1, h2', h3', h20, h72, mm⟩
    refine c_cond h72 (fun h => ?_) (fun h => ?_)
    · have h35 : k = 3 ∨ k = 5 := by simpa using h
      rw [if_pos h35] at hfr
      clear h
      refine c_sreg rfl ?_
      refine s1 (r_asi rfl) ?_
      refine wn ?_
      refine c_block ?_
      refine c_loop (fun kk e w' => ∃ (i : Nat) (c : Clk), kk + i = 5 ∧ e 1 = .pointer (some ⟨b2, 0, none⟩) ∧ e 2 = .pointer (some ⟨b3, 0, none⟩) ∧ e 3 = .pointer (some ⟨b4, 0, none⟩) ∧ e 4 = .int .i64 i ∧ Mem w No w' [bk b2 (recV x a cap) 47, bk b3 (recV rec0 none 0) 47, bk b4 (recV ⟨k, r, 0, c, []⟩ none 0) 47] ∧ ∀ j, j < i → j < 5 → c.get j = m20 (x.c.get j)) 5 ?_ ?_
      · exact ⟨0, clk0, rfl, h1, h2', h3', rfl, mm, fun j hj => absurd hj (by omega)⟩
      clear mm h1 h2' h3'
      rintro kk e w9 ⟨i, c, hki, h1, h2', h3', h4, mm, hcc⟩
      refine c_seq ?_
      refine c_sreg rfl ?_
      refine s1 (r_mvi h4) ?_
      refine s1 (r_lt rfl rfl) ?_
      refine wn ?_
      refine c_cond rfl (fun h => (c_skip (t_n ?_))) (fun h => (c_exit (t_x (t_x (b_x (b_n (t_n ?_)))))))
      · have hi : i < 5 := by simp at h; omega
        clear h
        refine c_seq ?_
        refine c_block ?_
        refine c_region rfl ?_
        refine s1 (r_mvi h4) ?_
        refine s1 (r_mvi h4) ?_
        refine s1 (r_fa h1) ?_
        refine s1 (r_ixa rfl rfl (by omega) (by omega)) ?_
        refine s1 (r_ld rfl (mm.b 0 rfl) (nth_rvi x a cap i hi)) ?_
        refine s1 (r_band rfl rfl rfl) ?_
        refine s1 (r_fa h3') ?_
        refine s1 (r_ixa rfl rfl (by omega) (by omega)) ?_
        refine ss (o_st mm 2 rfl rfl rfl rfl (blt_rvi _ _ _ i hi) fun w7 mm => ?_)
        refine wn (b_n (t_n ?_))
        have mm := mm.castc (setN_rvi _ _ _ i hi _)
        refine c_region rfl ?_
        refine s1 (r_mvi h4) ?_
        refine s1 (r_add rfl rfl (wi (by omega) (by omega))) ?_
        refine s1 (r_asi rfl) ?_
        refine wn (t_n ?_)
        refine ⟨kk - 1, by omega, i + 1, _, by omega, h1, h2', h3', rfl, mm, ?_⟩
        intro j hj hj5
        show (c.set i (m20 (x.c.get i))).get j = _
        rw [Clk.get_set _ _ _ hi hj5]
        by_cases hij : i = j
        · rw [if_pos hij, hij]
        · rw [if_neg hij]; exact hcc j (by omega) hj5
      have hi : i = 5 := by simp at h; omega
      subst hi
      have hce : c = fitC x.c := Clk.ext' fun j hj => by rw [hcc j hj hj, fitC_get]
      subst hce
      refine ⟨none, 0, h1, h2', h3', ?_⟩
      rw [hfr]
      exact mm.nilrow (T := 25) (sz := 12)
    have h35 : ¬ (k = 3 ∨ k = 5) := by simpa using h
    rw [if_neg h35] at hfr
    clear h
    refine c_seq ?_
    refine c_sreg rfl ?_
    refine s1 (r_asi rfl) ?_
    refine wn ?_
    refine c_mid0 (fun e w' => ∃ a' c', e 1 = .pointer (some ⟨b2, 0, none⟩) ∧ e 2 = .pointer (some ⟨b3, 0, none⟩) ∧ e 3 = .pointer (some ⟨b4, 0, none⟩) ∧ Mem w No w' [bk b2 (recV x a cap) 47, bk b3 (recV rec0 none 0) 47, bk b4 (recV ⟨k, r, 0, clk0, fitFs k r x.es⟩ a' c') 47, own 25 12 a' (fitFs k r x.es).length c' (evsC (fitFs k r x.es))]) ?_ ?_
    · refine c_block ?_
      refine c_loop (fun kk e w' => ∃ (i : Nat) (a' : Option Addr) (c' : Nat), kk + i = 20 ∧ i ≤ x.es.length ∧ e 1 = .pointer (some ⟨b2, 0, none⟩) ∧ e 2 = .pointer (some ⟨b3, 0, none⟩) ∧ e 3 = .pointer (some ⟨b4, 0, none⟩) ∧ e 5 = .int .i64 i ∧ Mem w No w' [bk b2 (recV x a cap) 47, bk b3 (recV rec0 none 0) 47, bk b4 (recV ⟨k, r, 0, clk0, (fitFs k r (x.es.take i))⟩ a' c') 47, own 25 12 a' (fitFs k r (x.es.take i)).length c' (evsC (fitFs k r (x.es.take i)))]) 20 ?_ ?_
      · exact ⟨0, none, 0, rfl, Nat.zero_le _, h1, h2', h3', rfl, mm.nilrow⟩
      clear mm h1 h2' h3'
      rintro kk e w9 ⟨i, a', c', hki, hil, h1, h2', h3', h5, mm⟩
      have hfl := fitFs_len2 k r x.es i hil (by omega)
      refine c_seq ?_
      refine c_sreg rfl ?_
      refine s1 (r_mvi h5) ?_
      refine s1 (r_fa h1) ?_
      refine s1 (r_ld rfl (mm.b 0 rfl) rfl) ?_
      refine s1 (r_len rfl) ?_
      refine s1 (r_lt rfl rfl) ?_
      refine s1 (r_mvb rfl) ?_
      refine sT rfl rfl (fun h => r_mvi h5) ?_
      refine sT rfl rfl (fun h => r_lt (sel_t h :) rfl) ?_
      refine s1 (r_and rfl rfl) ?_
      refine wn ?_
      refine c_cond rfl (fun h => (c_skip (t_n ?_))) (fun h => (c_exit (t_x (t_x (b_x (t_n ?_))))))
      · have hi : i < x.es.length ∧ i < 20 := by simp at h; omega
        clear h
        have hyin : EvIn (x.es[i]'hi.1) := hin.es _ (List.getElem_mem hi.1)
        have hye := evMay_ok (fitEv_ok (x.es[i]'hi.1))
        refine c_seq ?_
        refine c_block ?_
        refine c_sreg rfl ?_
        refine s1 (r_fa h1) ?_
        refine s1 (r_ld rfl (mm.b 0 rfl) rfl) ?_
        refine s1 (r_mvi h5) ?_
        refine s1 (r_ix rfl rfl (by omega) (by omega) (evs_some H hi.1)) ?_
        refine s1 (r_ldce rfl (mm.ro H) (seg_evs x.es i hi.1) (evs_le x.es i hi.1) (by decide)) ?_
        refine so (o_c1 rfl (c_fit6 _ hyin _) ?_)
        rintro _ w8 ⟨rfl, hc⟩
        have mm := mm.frame hc
        refine so (o_al mm fun b9 w9 mm => ?_)
        refine ss (o_sta mm 4 rfl rfl rfl rfl rfl (Nat.le_of_ble_eq_true rfl) fun w10 mm => ?_)
        refine wn ?_
        have hfe : fitFE k r x.es[i] = if k = 1 then { fitEv x.es[i] with c := (((fitEv x.es[i]).c.set (fitEv x.es[i]).r.toNat 0).set r.toNat ((fitEv x.es[i]).n - 1)), r := r } else fitEv x.es[i] := rfl
        generalize fitEv x.es[i] = y at *
        refine c_seq ?_
        refine c_sreg rfl ?_
        refine s1 (r_fa h3') ?_
        refine s1 (r_ld rfl (mm.b 2 rfl) rfl) ?_
        refine s1 (r_eq rfl rfl) ?_
        refine wn ?_
        refine c_mid0 (fun e w' => e 1 = .pointer (some ⟨b2, 0, none⟩) ∧ e 2 = .pointer (some ⟨b3, 0, none⟩) ∧ e 3 = .pointer (some ⟨b4, 0, none⟩) ∧ e 5 = .int .i64 i ∧ e 6 = .pointer (some ⟨b9, 0, none⟩) ∧ Mem w No w' [bk b2 (recV x a cap) 47, bk b3 (recV rec0 none 0) 47, bk b4 (recV ⟨k, r, 0, clk0, (fitFs k r (x.es.take i))⟩ a' c') 47, own 25 12 a' (fitFs k r (x.es.take i)).length c' (evsC (fitFs k r (x.es.take i))), bk b9 (evC (fitFE k r x.es[i])) 25]) ?_ ?_
        · refine c_cond rfl (fun h => ?_) (fun h => (c_skip (t_n ?_)))
          · have hk1 : k = 1 := by simpa using h
            rw [if_pos hk1] at hfe
            have g0 := hye.r0; have g5 := hye.r5; have gn := hye.n1; have gm := hye.n2
            refine c_sreg rfl ?_
            refine s1 (r_fa rfl) ?_
            refine s1 (r_ld rfl (mm.b 4 rfl) rfl) ?_
            refine s1 (r_fa rfl) ?_
            refine s1 (r_ixa rfl rfl g0 g5) ?_
            refine ss (o_st mm 4 rfl rfl rfl rfl (blt_evr _ _ g0 g5) fun w11 mm => ?_)
            refine wn ?_
            have mm := mm.casty (setN_evr _ _ g0 g5 _)
            refine c_sreg rfl ?_
            refine s1 (r_fa h3') ?_
            refine s1 (r_ld rfl (mm.b 2 rfl) rfl) ?_
            refine s1 (r_fa rfl) ?_
            refine ss (o_st mm 4 rfl rfl rfl rfl rfl fun w12 mm => ?_)
            refine wn ?_
            have mm := mm.casty (show _ = evC ⟨r, y.n, y.c.set y.r.toNat 0, y.h, y.kind, y.key, y.label, y.val⟩ from rfl)
            refine c_region rfl ?_
            refine s1 (r_fa rfl) ?_
            refine s1 (r_ld rfl (mm.b 4 rfl) rfl) ?_
            refine s1 (r_fa rfl) ?_
            refine s1 (r_ld rfl (mm.b 4 rfl) rfl) ?_
            refine s1 (r_sub rfl rfl (show IntKind.i64.wrap (y.n - 1) = y.n - 1 from wi (by omega) (by omega))) ?_
            refine s1 (r_fa rfl) ?_
            refine s1 (r_ixa rfl rfl hr.1 hr.2) ?_
            refine ss (o_st mm 4 rfl rfl rfl rfl (blt_evr _ _ hr.1 hr.2) fun w13 mm => ?_)
            refine wn (t_n ?_)
            have mm := mm.casty (setN_evr _ _ hr.1 hr.2 _)
            rw [hfe]
            exact ⟨h1, h2', h3', h5, rfl, mm⟩
          · have hk1 : ¬ k = 1 := by simpa using h
            rw [if_neg hk1] at hfe
            rw [hfe]
            exact ⟨h1, h2', h3', h5, rfl, mm⟩
        clear mm h1 h2' h3' h5
        rintro e w9 ⟨h1, h2', h3', h5, h6, mm⟩
        refine c_region rfl ?_
        refine s1 (r_fa h3') ?_
        refine s1 (r_ld rfl (mm.b 2 rfl) rfl) ?_
        refine s1 (r_lda h6 (mm.b 4 rfl) rfl) ?_
        refine so (o_bg mm (bg rfl bN) rfl rfl (by decide) (by decide) (by decide) fun a14 c14 w14 mm => ?_)
        refine so (o_ap mm 3 rfl rfl rfl (src_own mm 5 rfl rfl) (by omega) (by unfold maxLen; omega) fun a15 c15 w15 mm => ?_)
        refine s1 (r_fa h3') ?_
        refine ss (o_st mm 2 rfl rfl rfl rfl rfl fun w16 mm => ?_)
        refine wn (b_n (t_n ?_))
        have mm := mm.pk [0, 1, 2, 3] (by decide)
        have hsn := fitFs_snoc k r x.es i hi.1 hi.2
        have hle : (fitFs k r (x.es.take (i + 1))).length = (fitFs k r (x.es.take i)).length + 1 := by rw [hsn, List.length_append]; rfl
        have mm := mm.castf (cs' := recV ⟨k, r, 0, clk0, fitFs k r (x.es.take (i + 1))⟩ _ _) (n' := (fitFs k r (x.es.take (i + 1))).length) (ds' := evsC (fitFs k r (x.es.take (i + 1)))) (by simp only [recV, hle]; rfl) hle.symm (by rw [hsn, evsC_append]; rfl)
        refine c_region rfl ?_
        refine s1 (r_mvi h5) ?_
        refine s1 (r_add rfl rfl (wi (by omega) (by omega))) ?_
        refine s1 (r_asi rfl) ?_
        refine wn (t_n ?_)
        exact ⟨kk - 1, by omega, i + 1, _, _, by omega, by omega, h1, h2', h3', rfl, mm⟩
      have hi : fitFs k r (x.es.take i) = fitFs k r x.es := by
        have h9 : i = x.es.length ∨ i = 20 := by simp at h; omega
        rcases h9 with h9 | h9
        · rw [h9, List.take_length]
        · rw [h9, fitFs_all]
      rw [hi] at mm
      exact ⟨a', c', h1, h2', h3', mm⟩
    clear mm h1 h2' h3' h20 h72
    rintro e w9 ⟨a', c', h1, h2', h3', mm⟩
    refine c_sreg rfl ?_
    refine s1 (r_fa h3') ?_
    refine s1 (r_ld rfl (mm.b 2 rfl) rfl) ?_
    refine s1 (r_len rfl) ?_
    refine s1 (r_eq rfl rfl) ?_
    refine wn ?_
    refine c_cond rfl (fun h => ?_) (fun h => (c_skip (b_n (t_n ?_))))
    · have h0 : (fitFs k r x.es).length = 0 := by simpa using h
      rw [if_pos h0] at hfr
      refine c_region rfl ?_
      refine s1 (r_fa h3') ?_
      refine ss (o_st mm 2 rfl rfl rfl rfl rfl fun w17 mm => ?_)
      refine wn (b_n (t_n ?_))
      refine ⟨a', c', h1, h2', h3', ?_⟩
      rw [hfr]
      exact mm
    · have h0 : ¬ (fitFs k r x.es).length = 0 := by simpa using h
      rw [if_neg h0] at hfr
      refine ⟨a', c', h1, h2', h3', ?_⟩
      rw [hfr]
      exact mm
  clear mm
  rintro e w9 ⟨a', c', h1, h2', h3', mm⟩
  refine c_sreg rfl ?_
  refine s1 (r_lda h3' (mm.b 2 rfl) rfl) ?_
  refine ss (o_sta mm 1 rfl h2' rfl rfl rfl (Nat.le_of_ble_eq_true rfl) fun w18 mm => ?_)
  refine wn ?_
  exact c_ret (retc rfl h2' (mm.b 1 rfl) rfl ⟨_, _, rfl, mm.chg, mm.isNew 3 rfl⟩)
end Go.Proofs.Ytgdbbaggkoillaa

