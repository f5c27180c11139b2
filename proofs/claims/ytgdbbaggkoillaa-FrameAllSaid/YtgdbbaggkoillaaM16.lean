/- kithref07.Fit: the walk. -/
import Derived.Test.YtgdbbaggkoillaaM15
import Derived.Test.YtgdbbaggkoillaaM11
import Derived.Test.YtgdbbaggkoillaaM12
import Derived.Test.YtgdbbaggkoillaaM7
import Derived.Laws.MakeOwn
import Derived.Test.YtgdbbaggkoillaaM13
import Derived.Test.YtgdbbaggkoillaaM8
import Derived.Test.YtgdbbaggkoillaaM5
import Derived.DataReads
namespace Go.Proofs.Ytgdbbaggkoillaa
open K
set_option maxRecDepth 100000
set_option maxHeartbeats 4000000

theorem fitFs_snoc (k r : Int) (l : List Ev) (i : Nat) (h : i < l.length) (hi : i < 20) : fitFs k r (l.take (i + 1)) = fitFs k r (l.take i) ++ [fitFE k r l[i]] := by
  unfold fitFs
  rw [List.take_take, List.take_take, Nat.min_eq_right (by omega), Nat.min_eq_right (by omega), List.take_succ_eq_append_getElem h, List.map_append]; rfl
theorem fitFs_all (k r : Int) (l : List Ev) : fitFs k r (l.take 20) = fitFs k r l := by
  unfold fitFs
  rw [List.take_take, Nat.min_self]
theorem fitFs_len2 (k r : Int) (l : List Ev) (i : Nat) (h : i ≤ l.length) (hi : i ≤ 20) : (fitFs k r (l.take i)).length = i := by
  unfold fitFs
  rw [List.length_map, List.length_take, List.length_take]; omega
theorem K.Mem.castf {w0 w : World} {F0 : Nat → Prop} {I J : It} {b : Nat} {cs cs' ds ds' : List Value} {T T' : TypeId} {sz n n' c : Nat} {a : Option Addr} (h : Mem w0 F0 w [I, J, bk b cs T, own T' sz a n c ds]) (hc : cs = cs') (hn : n = n') (hd : ds = ds') : Mem w0 F0 w [I, J, bk b cs' T, own T' sz a n' c ds'] := by subst hc; subst hn; subst hd; exact h
theorem K.Mem.casty {w0 w : World} {F0 : Nat → Prop} {I J M N : It} {b : Nat} {cs cs' : List Value} {T : TypeId} (h : Mem w0 F0 w [I, J, M, N, bk b cs T]) (hc : cs = cs') : Mem w0 F0 w [I, J, M, N, bk b cs' T] := by subst hc; exact h
theorem c_fit07 (x : Rec) {a : Option Addr} {cap : Nat} (w : World) (H : Cells w a (evsC x.es)) (hin : RecIn x) : Cl Try.prog 38 #[.agg (recV x a cap).toArray] w
    (fun v w' => ∃ a' c', v = .agg (recV (frFit x) a' c').toArray ∧ Chg No w w' ∧ NewR w w' a' c' (frFit x).es) := by
  have hq := tmod_in x.kind 5 (by decide)
  have hq5 := tmod_in x.r 5 (by decide)
  have hk5 := fitK_in x.kind
  have hr := fitR_in x.r
  have hlen := hin.len
  refine f_enter (args := [_]) Try.func38 rfl rfl ?_
  have mm := Mem.nil No w
  refine c_sreg rfl ?_
  refine so (o_bxa mm rfl fun b2 w2 mm => ?_)
  refine so (o_al mm fun b3 w3 mm => ?_)
  refine wn ?_
  refine c_sreg rfl ?_
  refine s1 (r_fa rfl) ?_
  refine s1 (r_ld rfl (mm.b 0 rfl) rfl) ?_
  refine s1 (r_rem rfl rfl (by decide) rfl) ?_
  refine s1 (r_add rfl rfl (wi (by omega) (by omega))) ?_
  refine s1 (r_rem rfl rfl (by decide) rfl) ?_
  refine s1 (r_add rfl rfl (show IntKind.i64.wrap (1 + ((x.kind.tmod 5) + 5).tmod 5) = fitK x.kind from wi (by unfold fitK at hk5; omega) (by unfold fitK at hk5; omega))) ?_
  refine s1 (r_fa rfl) ?_
  refine s1 (r_ld rfl (mm.b 0 rfl) rfl) ?_
  refine s1 (r_rem rfl rfl (by decide) rfl) ?_
  refine s1 (r_add rfl rfl (wi (by omega) (by omega))) ?_
  refine s1 (r_rem rfl rfl (by decide) (show _ = fitR x.r from rfl)) ?_
  refine s1 (r_bd (bi rfl (bi rfl bN)) rfl) ?_
  refine so (o_al mm fun b4 w4 mm => ?_)
  refine ss (o_sta mm 2 rfl rfl rfl rfl rfl (Nat.le_of_ble_eq_true rfl) fun w5 mm => ?_)
  refine wn ?_
  have mm : Mem w No _ [bk b2 (recV x a cap) 47, bk b3 (recV rec0 none 0) 47, bk b4 (recV ⟨fitK x.kind, fitR x.r, 0, clk0, []⟩ none 0) 47] := mm
  have hfr : frFit x = (if fitK x.kind = 2 then ⟨2, fitR x.r, m20 x.upto, clk0, []⟩ else if fitK x.kind = 3 ∨ fitK x.kind = 5 then ⟨fitK x.kind, fitR x.r, 0, fitC x.c, []⟩ else ⟨if (fitFs (fitK x.kind) (fitR x.r) x.es).length = 0 then 4 else fitK x.kind, fitR x.r, 0, clk0, fitFs (fitK x.kind) (fitR x.r) x.es⟩) := rfl
  generalize hk : fitK x.kind = k at *
  generalize hrr : fitR x.r = r at *
  refine c_seq ?_
  refine c_sreg rfl ?_
  refine s1 (r_fa rfl) ?_
  refine s1 (r_ld rfl (mm.b 2 rfl) rfl) ?_
  refine wn ?_
  refine c_mid0 (fun e w' => ∃ a' c', e 1 = .pointer (some ⟨b2, 0, none⟩) ∧ e 2 = .pointer (some ⟨b3, 0, none⟩) ∧ e 3 = .pointer (some ⟨b4, 0, none⟩) ∧ Mem w No w' [bk b2 (recV x a cap) 47, bk b3 (recV rec0 none 0) 47, bk b4 (recV (frFit x) a' c') 47, own 25 12 a' (frFit x).es.length c' (evsC (frFit x).es)]) ?_ ?_
  · refine c_block ?_
    refine c_sreg rfl ?_
    refine s1 (r_eq rfl rfl) ?_
    refine s1 (r_asb rfl) ?_
    refine wn ?_
    refine c_cond rfl (fun h => ?_) (fun h => ?_)
    · have h2 : k = 2 := by simpa using h
      subst h2
      rw [if_pos rfl] at hfr
      refine c_region rfl ?_
      refine s1 (r_fa rfl) ?_
      refine s1 (r_ld rfl (mm.b 0 rfl) rfl) ?_
      refine s1 (r_band rfl rfl rfl) ?_
      refine s1 (r_fa rfl) ?_
      refine ss (o_st mm 2 rfl rfl rfl rfl rfl fun w6 mm => ?_)
      refine wn (b_n (t_n ?_))
      refine ⟨none, 0, rfl, rfl, rfl, ?_⟩
      rw [hfr]
      exact mm.nilrow (T := 25) (sz := 12)
    have h2 : ¬ k = 2 := by simpa using h
    clear h
    rw [if_neg h2] at hfr
    refine c_seq ?_
    refine c_sreg rfl ?_
    refine s1 (r_eq rfl rfl) ?_
    refine s1 (r_asb rfl) ?_
    refine wn ?_
    refine c_mid0 (fun e w' => e 1 = .pointer (some ⟨b2, 0, none⟩) ∧ e 2 = .pointer (some ⟨b3, 0, none⟩) ∧ e 3 = .pointer (some ⟨b4, 0, none⟩) ∧ e 20 = .int .i64 k ∧ e 72 = .bool (decide (k = 3 ∨ k = 5)) ∧ Mem w No w' [bk b2 (recV x a cap) 47, bk b3 (recV rec0 none 0) 47, bk b4 (recV ⟨k, r, 0, clk0, []⟩ none 0) 47]) ?_ ?_
    · refine c_cond rfl (fun h => (c_skip (t_n ?_))) (fun h => ?_)
      · have h3 : k = 3 := by simpa using h
        exact ⟨rfl, rfl, rfl, rfl, by rw [h3]; rfl, mm⟩
      · have h3 : ¬ k = 3 := by simpa using h
        refine c_region rfl ?_
        refine s1 (r_eq rfl rfl) ?_
        refine s1 (r_asb rfl) ?_
        refine wn (t_n ?_)
        refine ⟨rfl, rfl, rfl, rfl, congrArg Value.bool ?_, mm⟩
        simp [h3]
    clear mm
    rintro e w9 ⟨h1, h2', h3', h20, h72, mm⟩
    refine c_cond h72 (fun h => ?_) (fun h => ?_)
    · have h35 : k = 3 ∨ k = 5 := by simpa using h
      rw [if_pos h35] at hfr
      clear h
      refine c_sreg rfl ?_
      refine s1 (r_asi rfl) ?_
      refine wn ?_
      refine c_block ?_
      refine c_loop (fun kk e w' => ∃ (i : Nat) (c : Clk), kk + i = 5 ∧ e 1 = .pointer (some ⟨b2, 0, none⟩) ∧ e 2 = .pointer (some ⟨b3, 0, none⟩) ∧ e 3 = .pointer (some ⟨b4, 0, none⟩) ∧ e 4 = .int .i64 i ∧ Mem w No w' [bk b2 (recV x a cap) 47, bk b3 (recV rec0 none 0) 47, bk b4 (recV ⟨k, r, 0, c, []⟩ none 0) 47] ∧ ∀ j, j < i → j < 5 → c.get j = m20 (x.c.get j)) 5 ?_ ?_
      · exact ⟨0, clk0, rfl, h1, h2', h3', rfl, mm, fun j hj => absurd hj (by omega)⟩
      clear mm h1 h2' h3'
      rintro kk e w9 ⟨i, c, hki, h1, h2', h3', h4, mm, hcc⟩
      refine c_seq ?_
      refine c_sreg rfl ?_
      refine s1 (r_mvi h4) ?_
      refine s1 (r_lt rfl rfl) ?_
      refine wn ?_
      refine c_cond rfl (fun h => (c_skip (t_n ?_))) (fun h => (c_exit (t_x (t_x (b_x (b_n (t_n ?_)))))))
      · have hi : i < 5 := by simp at h; omega
        clear h
        refine c_seq ?_
        refine c_block ?_
        refine c_region rfl ?_
        refine s1 (r_mvi h4) ?_
        refine s1 (r_mvi h4) ?_
        refine s1 (r_fa h1) ?_
        refine s1 (r_ixa rfl rfl (by omega) (by omega)) ?_
        refine s1 (r_ld rfl (mm.b 0 rfl) (nth_rvi x a cap i hi)) ?_
        refine s1 (r_band rfl rfl rfl) ?_
        refine s1 (r_fa h3') ?_
        refine s1 (r_ixa rfl rfl (by omega) (by omega)) ?_
        refine ss (o_st mm 2 rfl rfl rfl rfl (blt_rvi _ _ _ i hi) fun w7 mm => ?_)
        refine wn (b_n (t_n ?_))
        have mm := mm.castc (setN_rvi _ _ _ i hi _)
        refine c_region rfl ?_
        refine s1 (r_mvi h4) ?_
        refine s1 (r_add rfl rfl (wi (by omega) (by omega))) ?_
        refine s1 (r_asi rfl) ?_
        refine wn (t_n ?_)
        refine ⟨kk - 1, by omega, i + 1, _, by omega, h1, h2', h3', rfl, mm, ?_⟩
        intro j hj hj5
        show (c.set i (m20 (x.c.get i))).get j = _
        rw [Clk.get_set _ _ _ hi hj5]
        by_cases hij : i = j
        · rw [if_pos hij, hij]
        · rw [if_neg hij]; exact hcc j (by omega) hj5
      have hi : i = 5 := by simp at h; omega
      subst hi
      have hce : c = fitC x.c := Clk.ext' fun j hj => by rw [hcc j hj hj, fitC_get]
      subst hce
      refine ⟨none, 0, h1, h2', h3', ?_⟩
      rw [hfr]
      exact mm.nilrow (T := 25) (sz := 12)
    have h35 : ¬ (k = 3 ∨ k = 5) := by simpa using h
    rw [if_neg h35] at hfr
    clear h
    refine c_seq ?_
    refine c_sreg rfl ?_
    refine s1 (r_asi rfl) ?_
    refine wn ?_
    refine c_mid0 (fun e w' => ∃ a' c', e 1 = .pointer (some ⟨b2, 0, none⟩) ∧ e 2 = .pointer (some ⟨b3, 0, none⟩) ∧ e 3 = .pointer (some ⟨b4, 0, none⟩) ∧ Mem w No w' [bk b2 (recV x a cap) 47, bk b3 (recV rec0 none 0) 47, bk b4 (recV ⟨k, r, 0, clk0, fitFs k r x.es⟩ a' c') 47, own 25 12 a' (fitFs k r x.es).length c' (evsC (fitFs k r x.es))]) ?_ ?_
    · refine c_block ?_
      refine c_loop (fun kk e w' => ∃ (i : Nat) (a' : Option Addr) (c' : Nat), kk + i = 20 ∧ i ≤ x.es.length ∧ e 1 = .pointer (some ⟨b2, 0, none⟩) ∧ e 2 = .pointer (some ⟨b3, 0, none⟩) ∧ e 3 = .pointer (some ⟨b4, 0, none⟩) ∧ e 5 = .int .i64 i ∧ Mem w No w' [bk b2 (recV x a cap) 47, bk b3 (recV rec0 none 0) 47, bk b4 (recV ⟨k, r, 0, clk0, (fitFs k r (x.es.take i))⟩ a' c') 47, own 25 12 a' (fitFs k r (x.es.take i)).length c' (evsC (fitFs k r (x.es.take i)))]) 20 ?_ ?_
      · exact ⟨0, none, 0, rfl, Nat.zero_le _, h1, h2', h3', rfl, mm.nilrow⟩
      clear mm h1 h2' h3'
      rintro kk e w9 ⟨i, a', c', hki, hil, h1, h2', h3', h5, mm⟩
      have hfl := fitFs_len2 k r x.es i hil (by omega)
      refine c_seq ?_
      refine c_sreg rfl ?_
      refine s1 (r_mvi h5) ?_
      refine s1 (r_fa h1) ?_
      refine s1 (r_ld rfl (mm.b 0 rfl) rfl) ?_
      refine s1 (r_len rfl) ?_
      refine s1 (r_lt rfl rfl) ?_
      refine s1 (r_mvb rfl) ?_
      refine sT rfl rfl (fun h => r_mvi h5) ?_
      refine sT rfl rfl (fun h => r_lt (sel_t h :) rfl) ?_
      refine s1 (r_and rfl rfl) ?_
      refine wn ?_
      refine c_cond rfl (fun h => (c_skip (t_n ?_))) (fun h => (c_exit (t_x (t_x (b_x (t_n ?_))))))
      · have hi : i < x.es.length ∧ i < 20 := by simp at h; omega
        clear h
        have hyin : EvIn (x.es[i]'hi.1) := hin.es _ (List.getElem_mem hi.1)
        have hye := evMay_ok (fitEv_ok (x.es[i]'hi.1))
        refine c_seq ?_
        refine c_block ?_
        refine c_sreg rfl ?_
        refine s1 (r_fa h1) ?_
        refine s1 (r_ld rfl (mm.b 0 rfl) rfl) ?_
        refine s1 (r_mvi h5) ?_
        refine s1 (r_ix rfl rfl (by omega) (by omega) (evs_some H hi.1)) ?_
        refine s1 (r_ldce rfl (mm.ro H) (seg_evs x.es i hi.1) (evs_le x.es i hi.1) (by decide)) ?_
        refine so (o_c1 rfl (c_fit6 _ hyin _) ?_)
        rintro _ w8 ⟨rfl, hc⟩
        have mm := mm.frame hc
        refine so (o_al mm fun b9 w9 mm => ?_)
        refine ss (o_sta mm 4 rfl rfl rfl rfl rfl (Nat.le_of_ble_eq_true rfl) fun w10 mm => ?_)
        refine wn ?_
        have hfe : fitFE k r x.es[i] = if k = 1 then { fitEv x.es[i] with c := (((fitEv x.es[i]).c.set (fitEv x.es[i]).r.toNat 0).set r.toNat ((fitEv x.es[i]).n - 1)), r := r } else fitEv x.es[i] := rfl
        generalize fitEv x.es[i] = y at *
        refine c_seq ?_
        refine c_sreg rfl ?_
        refine s1 (r_fa h3') ?_
        refine s1 (r_ld rfl (mm.b 2 rfl) rfl) ?_
        refine s1 (r_eq rfl rfl) ?_
        refine wn ?_
        refine c_mid0 (fun e w' => e 1 = .pointer (some ⟨b2, 0, none⟩) ∧ e 2 = .pointer (some ⟨b3, 0, none⟩) ∧ e 3 = .pointer (some ⟨b4, 0, none⟩) ∧ e 5 = .int .i64 i ∧ e 6 = .pointer (some ⟨b9, 0, none⟩) ∧ Mem w No w' [bk b2 (recV x a cap) 47, bk b3 (recV rec0 none 0) 47, bk b4 (recV ⟨k, r, 0, clk0, (fitFs k r (x.es.take i))⟩ a' c') 47, own 25 12 a' (fitFs k r (x.es.take i)).length c' (evsC (fitFs k r (x.es.take i))), bk b9 (evC (fitFE k r x.es[i])) 25]) ?_ ?_
        · refine c_cond rfl (fun h => ?_) (fun h => (c_skip (t_n ?_)))
          · have hk1 : k = 1 := by simpa using h
            rw [if_pos hk1] at hfe
            have g0 := hye.r0; have g5 := hye.r5; have gn := hye.n1; have gm := hye.n2
            refine c_sreg rfl ?_
            refine s1 (r_fa rfl) ?_
            refine s1 (r_ld rfl (mm.b 4 rfl) rfl) ?_
            refine s1 (r_fa rfl) ?_
            refine s1 (r_ixa rfl rfl g0 g5) ?_
            refine ss (o_st mm 4 rfl rfl rfl rfl (blt_evr _ _ g0 g5) fun w11 mm => ?_)
            refine wn ?_
            have mm := mm.casty (setN_evr _ _ g0 g5 _)
            refine c_sreg rfl ?_
            refine s1 (r_fa h3') ?_
            refine s1 (r_ld rfl (mm.b 2 rfl) rfl) ?_
            refine s1 (r_fa rfl) ?_
            refine ss (o_st mm 4 rfl rfl rfl rfl rfl fun w12 mm => ?_)
            refine wn ?_
            have mm := mm.casty (show _ = evC ⟨r, y.n, y.c.set y.r.toNat 0, y.h, y.kind, y.key, y.label, y.val⟩ from rfl)
            refine c_region rfl ?_
            refine s1 (r_fa rfl) ?_
            refine s1 (r_ld rfl (mm.b 4 rfl) rfl) ?_
            refine s1 (r_fa rfl) ?_
            refine s1 (r_ld rfl (mm.b 4 rfl) rfl) ?_
            refine s1 (r_sub rfl rfl (show IntKind.i64.wrap (y.n - 1) = y.n - 1 from wi (by omega) (by omega))) ?_
            refine s1 (r_fa rfl) ?_
            refine s1 (r_ixa rfl rfl hr.1 hr.2) ?_
            refine ss (o_st mm 4 rfl rfl rfl rfl (blt_evr _ _ hr.1 hr.2) fun w13 mm => ?_)
            refine wn (t_n ?_)
            have mm := mm.casty (setN_evr _ _ hr.1 hr.2 _)
            rw [hfe]
            exact ⟨h1, h2', h3', h5, rfl, mm⟩
          · have hk1 : ¬ k = 1 := by simpa using h
            rw [if_neg hk1] at hfe
            rw [hfe]
            exact ⟨h1, h2', h3', h5, rfl, mm⟩
        clear mm h1 h2' h3' h5
        rintro e w9 ⟨h1, h2', h3', h5, h6, mm⟩
        refine c_region rfl ?_
        refine s1 (r_fa h3') ?_
        refine s1 (r_ld rfl (mm.b 2 rfl) rfl) ?_
        refine s1 (r_lda h6 (mm.b 4 rfl) rfl) ?_
        refine so (o_bg mm (bg rfl bN) rfl rfl (by decide) (by decide) (by decide) fun a14 c14 w14 mm => ?_)
        refine so (o_ap mm 3 rfl rfl rfl (src_own mm 5 rfl rfl) (by omega) (by unfold maxLen; omega) fun a15 c15 w15 mm => ?_)
        refine s1 (r_fa h3') ?_
        refine ss (o_st mm 2 rfl rfl rfl rfl rfl fun w16 mm => ?_)
        refine wn (b_n (t_n ?_))
        have mm := mm.pk [0, 1, 2, 3] (by decide)
        have hsn := fitFs_snoc k r x.es i hi.1 hi.2
        have hle : (fitFs k r (x.es.take (i + 1))).length = (fitFs k r (x.es.take i)).length + 1 := by rw [hsn, List.length_append]; rfl
        have mm := mm.castf (cs' := recV ⟨k, r, 0, clk0, fitFs k r (x.es.take (i + 1))⟩ _ _) (n' := (fitFs k r (x.es.take (i + 1))).length) (ds' := evsC (fitFs k r (x.es.take (i + 1)))) (by simp only [recV, hle]; rfl) hle.symm (by rw [hsn, evsC_append]; rfl)
        refine c_region rfl ?_
        refine s1 (r_mvi h5) ?_
        refine s1 (r_add rfl rfl (wi (by omega) (by omega))) ?_
        refine s1 (r_asi rfl) ?_
        refine wn (t_n ?_)
        exact ⟨kk - 1, by omega, i + 1, _, _, by omega, by omega, h1, h2', h3', rfl, mm⟩
      have hi : fitFs k r (x.es.take i) = fitFs k r x.es := by
        have h9 : i = x.es.length ∨ i = 20 := by simp at h; omega
        rcases h9 with h9 | h9
        · rw [h9, List.take_length]
        · rw [h9, fitFs_all]
      rw [hi] at mm
      exact ⟨a', c', h1, h2', h3', mm⟩
    clear mm h1 h2' h3' h20 h72
    rintro e w9 ⟨a', c', h1, h2', h3', mm⟩
    refine c_sreg rfl ?_
    refine s1 (r_fa h3') ?_
    refine s1 (r_ld rfl (mm.b 2 rfl) rfl) ?_
    refine s1 (r_len rfl) ?_
    refine s1 (r_eq rfl rfl) ?_
    refine wn ?_
    refine c_cond rfl (fun h => ?_) (fun h => (c_skip (b_n (t_n ?_))))
    · have h0 : (fitFs k r x.es).length = 0 := by simpa using h
      rw [if_pos h0] at hfr
      refine c_region rfl ?_
      refine s1 (r_fa h3') ?_
      refine ss (o_st mm 2 rfl rfl rfl rfl rfl fun w17 mm => ?_)
      refine wn (b_n (t_n ?_))
      refine ⟨a', c', h1, h2', h3', ?_⟩
      rw [hfr]
      exact mm
    · have h0 : ¬ (fitFs k r x.es).length = 0 := by simpa using h
      rw [if_neg h0] at hfr
      refine ⟨a', c', h1, h2', h3', ?_⟩
      rw [hfr]
      exact mm
  clear mm
  rintro e w9 ⟨a', c', h1, h2', h3', mm⟩
  refine c_sreg rfl ?_
  refine s1 (r_lda h3' (mm.b 2 rfl) rfl) ?_
  refine ss (o_sta mm 1 rfl h2' rfl rfl rfl (Nat.le_of_ble_eq_true rfl) fun w18 mm => ?_)
  refine wn ?_
  exact c_ret (retc rfl h2' (mm.b 1 rfl) rfl ⟨_, _, rfl, mm.chg, mm.isNew 3 rfl⟩)
end Go.Proofs.Ytgdbbaggkoillaa
/- The walk's own small logic: a slice made of zero values. -/
namespace Go.Proofs.Ytgdbbaggkoillaa
namespace K
section
variable {P : Program} {e : Env} {w : World} {d : Option Nat} {ty : Nat} {pos : String} {af : Array Edge} {g : Option (Nat × Bool)} {K : Value → World → Prop}
variable {w0 : World} {F0 : Nat → Prop} {L : List It}
theorem o_mk {t el sz by_ n : Nat} {k k' : IntKind} {l c : Operand} {z : List Value} [ht : TSl P t el] [he : El P el sz by_ z] (m : Mem w0 F0 w L) (hl : ev e l = .int k ((n : Nat) : Int)) (hc : ev e c = .int k' ((n : Nat) : Int)) (hb : by_ * n ≤ 281474976710656) (hm : n ≤ maxLen)
    (hK : ∀ a w', Mem w0 F0 w' (L ++ [own el sz a n n (zrep z n)]) → K (.slice a n n) w') : OwpE P ⟨d, .makeSlice t l c, ty, pos, af, g⟩ e w K := by
  obtain ⟨i, zv, hi, hsz, hby, hz, hzc, hzl, h0⟩ := he.h
  have hb' : (i.bytes : Int) * ((n : Nat) : Int) ≤ 281474976710656 := by
    have h : ((i.bytes * n : Nat) : Int) ≤ 281474976710656 := by rw [hby]; omega
    rwa [Int.natCast_mul] at h
  have hr := run_make (P := P) w t el i zv ht.h hi hz k k' n n (by omega) (by omega) hb' (by unfold maxLen at hm; omega)
  have h3 : madeCells zv.cells (n * i.size) = (zrep z n).toArray := by
    unfold madeCells
    rw [hsz, hzc, ← hzl]; exact zrep_eq z n
  simp only [Int.toNat_natCast, h3] at hr
  unfold OwpE
  simp only [execOp, hl, hc, Sem.run_bind, hr, Result.andThen_ok]
  exact hK _ _ (own_made (n := n) (cs := zrep z n) m (by rw [zrep_length, hzl]) hm)
end
theorem zrep_u8 : ∀ n, zrep [.int .u8 0] n = u8s (List.replicate n 0)
  | 0 => rfl
  | n + 1 => by rw [zrep, zrep_u8 n, List.replicate_succ]; rfl
end K
end Go.Proofs.Ytgdbbaggkoillaa
/- kithlaw07.FrameFields: the walk. -/
namespace Go.Proofs.Ytgdbbaggkoillaa
open K
set_option maxRecDepth 100000
set_option maxHeartbeats 4000000

theorem notF {x : Rec} (h : FrOk x → False) : frMay x = false := by
  cases hq : frMay x with
  | false => rfl
  | true => exact (h (frMay_ok hq)).elim
theorem evZ_mayF : evMay evZ ≠ 0 := by decide
theorem clk_set_wF {c : Clk} (h : ClkW c) (i : Nat) (v : Int) (hv : i64 v) : ClkW (c.set i v) := by
  obtain ⟨h0, h1, h2, h3, h4⟩ := h
  unfold Clk.set
  split <;> exact ⟨by first | exact hv | exact h0, by first | exact hv | exact h1, by first | exact hv | exact h2, by first | exact hv | exact h3, by first | exact hv | exact h4⟩
theorem clk_okF {c : Clk} (h : ∀ i, i < 5 → 0 ≤ c.get i ∧ c.get i ≤ 1048576) : ClkW c := clkW_of fun i hi => by have := h i hi; exact ⟨by omega, by omega⟩
theorem putF_pos (x : Rec) : 7 < (putF x).length := by
  have h := bodyF_len3 x
  have hv := vput_pos (bodyF x).length
  unfold putF
  rw [sealL_length, List.length_append]; omega
theorem putF_ne (x : Rec) : putF x ≠ [] := fun he => by have := putF_pos x; rw [he] at this; simp at this
theorem K.Mem.zSl {w0 w : World} {F0 : Nat → Prop} {L : List It} (m : Mem w0 F0 w L) (k n : Nat) {a : Option Addr} (hk : nth L k = some (own 5 1 a n n (zrep [.int .u8 0] n))) : Sl w (.slice a n n) (List.replicate n 0) := by
  refine ⟨a, n, by rw [List.length_replicate], by rw [List.length_replicate]; exact Nat.le_refl _, ?_⟩
  rw [← zrep_u8]; exact m.c k hk
theorem K.Mem.castdF {w0 w : World} {F0 : Nat → Prop} {I : It} {b : Nat} {cs cs' ds ds' : List Value} {T T' : TypeId} {sz n n' c : Nat} {a : Option Addr} (h : Mem w0 F0 w [I, own T' sz a n c ds, bk b cs T]) (hc : cs = cs') (hn : n = n') (hd : ds = ds') : Mem w0 F0 w [I, own T' sz a n' c ds', bk b cs' T] := by subst hc; subst hn; subst hd; exact h
theorem c_FrameFields (x0 : Rec) (a : Option Addr) (cap : Nat) (hin : RecIn x0) (m : Nat) (w : World) (H : Cells w a (evsC x0.es)) : Cl Try.prog 12 #[.agg (recV x0 a cap).toArray, .int .u8 (m : Nat)] w (fun v w' => v = .bool true ∧ Chg No w w') := by
  refine f_enter (args := [_, _]) Try.func12 rfl rfl ?_
  have mm := Mem.nil No w
  have ok := frFit_ok x0
  have h6 : ((m : Nat) : Int).tmod 6 = ((m % 6 : Nat) : Int) := by rw [Int.tmod_eq_emod_of_nonneg (by omega)]; rfl
  have h5 : ((m : Nat) : Int).tmod 5 = ((m % 5 : Nat) : Int) := by rw [Int.tmod_eq_emod_of_nonneg (by omega)]; rfl
  refine c_sreg rfl ?_
  refine so (o_bxa mm rfl fun b2 w2 mm => ?_)
  refine s1 (r_asb rfl) ?_
  refine wn ?_
  refine c_sreg rfl ?_
  refine so (o_c0 (c_shown07 _) ?_)
  rintro _ w3 ⟨rfl, hc⟩
  have mm := mm.frame hc
  refine s1 (r_asb rfl) ?_
  refine wn ?_
  refine c_sreg rfl ?_
  refine s1 (r_lda rfl (mm.b 0 rfl) rfl) ?_
  refine so (o_c1 rfl (c_fit07 x0 _ (mm.ro H) hin) ?_)
  rintro _ w4 ⟨a4, c4, rfl, hc, hn⟩
  have mm := mm.new hc hn
  refine so (o_al mm fun b5 w5 mm => ?_)
  refine ss (o_sta mm 2 rfl rfl rfl rfl rfl (Nat.le_of_ble_eq_true rfl) fun w6 mm => ?_)
  refine wn ?_
  generalize hx : frFit x0 = x at *
  have mm : Mem w No _ [bk b2 (recV x0 a cap) 47, own 25 12 a4 x.es.length c4 (evsC x.es), bk b5 (recV x a4 c4) 47] := mm
  have hmf := frMay_of ok
  have hpp := putF_pos x
  have hpe : frPut x = putF x := by unfold frPut; rw [hmf]; rfl
  refine c_sreg rfl ?_
  refine s1 (r_lda rfl (mm.b 2 rfl) rfl) ?_
  refine so (o_c1 rfl (c_fPut x _ (mm.c 1 rfl) (clk_okF ok.c)) ?_)
  rintro _ w7 ⟨a7, c7, rfl, hc, hn⟩
  have mm := mm.new hc hn
  refine s1 (r_mvu rfl) ?_
  refine s1 (r_exts rfl rfl) ?_
  refine s1 (r_exti rfl rfl) ?_
  refine s1 (r_ass rfl) ?_
  refine s1 (r_asi rfl) ?_
  refine wn ?_
  rw [hpe, hmf] at *
  refine c_seq ?_
  refine c_sreg rfl ?_
  refine s1 (r_mvb rfl) ?_
  refine s1 (r_not rfl) ?_
  refine s1 (r_mvb rfl) ?_
  refine sF rfl rfl (fun h => r_mvi rfl) ?_
  refine sF rfl rfl (fun h => r_ne (sel_t h :) rfl) ?_
  refine s1 (r_or rfl rfl) ?_
  refine s1 (r_mvb rfl) ?_
  refine sF rfl rfl (fun h => r_mvs rfl) ?_
  refine sF rfl rfl (fun h => r_len (sel_t h :)) ?_
  refine sF rfl rfl (fun h => r_eq (sel_t h :) rfl) ?_
  refine s1 (r_or rfl rfl) ?_
  refine wn ?_
  refine c_cond rfl (fun h => ?_) (fun h => (c_skip (t_n ?_)))
  · exfalso
    simp [putF_ne x] at h
  clear h
  have mm := mm.pk [0, 1, 2] (by decide)
  refine c_seq ?_
  refine c_sreg rfl ?_
  refine s1 (r_mvi rfl) ?_
  refine s1 (r_rem rfl rfl (by decide) (show ((m : Nat) : Int).tmod 6 = ((m % 6 : Nat) : Int) from h6)) ?_
  refine wn ?_
  refine c_mid0 (fun e w' => ∃ x' ao co, e 5 = .bool true ∧ e 6 = .pointer (some ⟨b5, 0, none⟩) ∧ Mem w No w' [bk b2 (recV x0 a cap) 47, own 25 12 ao x'.es.length co (evsC x'.es), bk b5 (recV x' ao co) 47] ∧ frMay x' = false ∧ ClkW x'.c) ?_ ?_
  · refine c_block ?_
    refine c_sreg rfl ?_
    refine s1 (r_eq rfl rfl) ?_
    refine s1 (r_asb rfl) ?_
    refine wn ?_
    refine c_cond rfl (fun h => ?_) (fun h => ?_)
    · refine c_region rfl ?_
      refine s1 (r_fa rfl) ?_
      refine ss (o_st mm 2 rfl rfl rfl rfl rfl fun w8 mm => ?_)
      refine wn (b_n (t_n ?_))
      exact ⟨{ x with upto := 1048577 }, _, _, rfl, rfl, mm, notF fun h => absurd h.u1 (by decide : ¬ (1048577 : Int) ≤ 1048576), clk_okF ok.c⟩
    have h0 : m % 6 ≠ 0 := by simp at h; omega
    clear h
    refine c_sreg rfl ?_
    refine s1 (r_eq rfl rfl) ?_
    refine s1 (r_asb rfl) ?_
    refine wn ?_
    refine c_cond rfl (fun h => ?_) (fun h => ?_)
    · have hi : m % 5 < 5 := Nat.mod_lt _ (by decide)
      refine c_region rfl ?_
      refine s1 (r_mvi rfl) ?_
      refine s1 (r_rem rfl rfl (by decide) (show ((m : Nat) : Int).tmod 5 = ((m % 5 : Nat) : Int) from h5)) ?_
      refine s1 (r_fa rfl) ?_
      refine s1 (r_ixa rfl rfl (by omega) (by omega)) ?_
      refine ss (o_st mm 2 rfl rfl rfl rfl (blt_rvi _ _ _ (m % 5) hi) fun w9 mm => ?_)
      refine wn (b_n (t_n ?_))
      have mm := mm.castc (setN_rvi _ _ _ (m % 5) hi _)
      refine ⟨{ x with c := x.c.set (m % 5) 1048577 }, _, _, rfl, rfl, mm, notF fun h => ?_, clk_set_wF (clk_okF ok.c) _ _ (by unfold i64; omega)⟩
      have := (h.c (m % 5) hi).2
      have h9 : (x.c.set (m % 5) 1048577).get (m % 5) = 1048577 := by rw [Clk.get_set _ _ _ hi hi, if_pos rfl]
      simp only at this
      rw [h9] at this
      omega
    have h1 : m % 6 ≠ 1 := by simp at h; omega
    clear h
    refine c_sreg rfl ?_
    refine s1 (r_eq rfl rfl) ?_
    refine s1 (r_asb rfl) ?_
    refine wn ?_
    refine c_cond rfl (fun h => ?_) (fun h => ?_)
    · refine c_region rfl ?_
      refine s1 (r_fa rfl) ?_
      refine ss (o_st mm 2 rfl rfl rfl rfl rfl fun w10 mm => ?_)
      refine wn (b_n (t_n ?_))
      exact ⟨{ x with r := 5 }, _, _, rfl, rfl, mm, notF fun h => absurd h.r5 (by decide : ¬ (5 : Int) < 5), clk_okF ok.c⟩
    have h2 : m % 6 ≠ 2 := by simp at h; omega
    clear h
    refine c_sreg rfl ?_
    refine s1 (r_eq rfl rfl) ?_
    refine s1 (r_asb rfl) ?_
    refine wn ?_
    refine c_cond rfl (fun h => ?_) (fun h => ?_)
    · refine c_region rfl ?_
      refine s1 (r_fa rfl) ?_
      refine ss (o_st mm 2 rfl rfl rfl rfl rfl fun w11 mm => ?_)
      refine wn (b_n (t_n ?_))
      exact ⟨{ x with kind := 6 }, _, _, rfl, rfl, mm, notF fun h => absurd (show fHas 6 = 0 from rfl) h.is, clk_okF ok.c⟩
    have h3 : m % 6 ≠ 3 := by simp at h; omega
    clear h
    refine c_sreg rfl ?_
    refine s1 (r_eq rfl rfl) ?_
    refine s1 (r_asb rfl) ?_
    refine wn ?_
    refine c_cond rfl (fun h => ?_) (fun h => ?_)
    · have hmost := ok.most
      refine c_region rfl ?_
      refine so (o_bs0 mm fun a12 c12 w12 mm => ?_)
      refine s1 (r_fa rfl) ?_
      refine s1 (r_ld rfl (mm.b 2 rfl) rfl) ?_
      refine so (o_ap mm 3 rfl rfl rfl (src_own mm 1 rfl (ones_evs _)) (by omega) (by unfold maxLen; omega) fun a13 c13 w13 mm => ?_)
      refine s1 (r_bd bN rfl) ?_
      refine so (o_bg mm (bg rfl bN) rfl rfl (by decide) (by decide) (by decide) fun a14 c14 w14 mm => ?_)
      refine so (o_ap mm 3 rfl rfl rfl (src_own mm 4 rfl rfl) (by omega) (by unfold maxLen; omega) fun a15 c15 w15 mm => ?_)
      refine s1 (r_fa rfl) ?_
      refine ss (o_st mm 2 rfl rfl rfl rfl rfl fun w16 mm => ?_)
      refine wn (b_n (t_n ?_))
      have mm := mm.pk [0, 3, 2] (by decide)
      have hle : (x.es ++ [evZ]).length = 0 + x.es.length + 1 := by rw [List.length_append, Nat.zero_add]; rfl
      have mm := mm.castdF (cs' := recV { x with es := x.es ++ [evZ] } _ _) (n' := (x.es ++ [evZ]).length) (ds' := evsC (x.es ++ [evZ])) (by simp only [recV, hle]; rfl) hle.symm (by rw [evsC_append]; rfl)
      refine ⟨{ x with es := x.es ++ [evZ] }, _, _, rfl, rfl, mm, notF fun h => ?_, clk_okF ok.c⟩
      exact evZ_mayF (h.es evZ (List.mem_append_right _ (List.mem_singleton.2 rfl)))
    refine c_region rfl ?_
    refine s1 (r_fa rfl) ?_
    refine ss (o_st mm 2 rfl rfl rfl rfl rfl fun w17 mm => ?_)
    refine wn (b_n (t_n ?_))
    exact ⟨{ x with kind := 0 }, _, _, rfl, rfl, mm, notF fun h => absurd (show fHas 0 = 0 from rfl) h.is, clk_okF ok.c⟩
  clear mm hc hn
  rintro e w9 ⟨x', ao, co, h5', h6', mm, hno, hw'⟩
  have hp : frPut x' = [] := by unfold frPut; rw [hno]; rfl
  refine c_sreg rfl ?_
  refine s1 (r_lda h6' (mm.b 2 rfl) rfl) ?_
  refine so (o_c1 rfl (c_fPut x' _ (mm.c 1 rfl) hw') ?_)
  rintro _ w18 ⟨a18, c18, rfl, hc, hn⟩
  have mm := mm.new hc hn
  refine s1 (r_mvu rfl) ?_
  refine s1 (r_exts rfl rfl) ?_
  refine s1 (r_exti rfl rfl) ?_
  refine s1 (r_ass rfl) ?_
  refine s1 (r_asi rfl) ?_
  refine wn ?_
  rw [hp, hno] at *
  have hrl : (List.replicate 2049 (0 : UInt8)).length = 2049 := List.length_replicate
  have htk : takeF (List.replicate 2049 0) = (rec0, 5) := by unfold takeF; rw [if_pos (by rw [hrl]; decide)]
  refine c_sreg rfl ?_
  refine so (o_mk mm (n := 2049) rfl rfl (by decide) (by decide) fun a19 w19 mm => ?_)
  refine so (o_c1 rfl (c_fTake (List.replicate 2049 0) (by rw [hrl]; decide) _ _ (mm.zSl 4 2049 rfl)) ?_)
  rintro _ w20 ⟨a20, c20, rfl, hc, hn⟩
  have mm := mm.new hc hn
  refine s1 (r_mvu rfl) ?_
  refine s1 (r_extg rfl rfl) ?_
  refine s1 (r_exti rfl rfl) ?_
  refine so (o_al mm fun b21 w21 mm => ?_)
  refine ss (o_sta mm 6 rfl rfl rfl rfl rfl (Nat.le_of_ble_eq_true rfl) fun w22 mm => ?_)
  refine s1 (r_asi rfl) ?_
  refine wn ?_
  rw [htk]
  refine c_sreg rfl ?_
  refine s1 (r_mvs rfl) ?_
  refine s1 (r_len rfl) ?_
  refine s1 (r_eq rfl rfl) ?_
  refine s1 (r_mvb rfl) ?_
  refine sT rfl rfl (fun h => r_mvi rfl) ?_
  refine sT rfl rfl (fun h => r_eq (sel_t h :) rfl) ?_
  refine s1 (r_and rfl rfl) ?_
  refine s1 (r_mvb rfl) ?_
  refine sT rfl rfl (fun h => r_mvi rfl) ?_
  refine sT rfl rfl (fun h => r_eq (sel_t h :) rfl) ?_
  refine s1 (r_and rfl rfl) ?_
  refine s1 (r_asb rfl) ?_
  refine wn ?_
  exact c_ret (ret1 rfl rfl ⟨rfl, mm.chg⟩)
end Go.Proofs.Ytgdbbaggkoillaa
/- kithlaw07.FrameAll: the walk. -/
namespace Go.Proofs.Ytgdbbaggkoillaa
open K
set_option maxRecDepth 100000
set_option maxHeartbeats 4000000

theorem c_take07E {b : List UInt8} {x : Rec} {cd : Int} (h : takeF b = (x, cd)) (hb : b.length ≤ 1000000000000) (v : Value) (w : World) (hs : Sl w v b) : Cl Try.prog 35 #[v] w
    (fun r w' => ∃ a' c', r = .tuple #[.agg (recV x a' c').toArray, .int .i64 cd] ∧ Chg No w w' ∧ NewR w w' a' c' x.es) := by
  have hT := c_take07 b hb v w hs
  rw [h] at hT
  exact hT
theorem c_fTakeE2 {b : List UInt8} {x : Rec} {cd : Int} (h : takeF b = (x, cd)) (hb : b.length ≤ 1099511627776) (v : Value) (w : World) (hs : Sl w v b) : Cl Try.prog 34 #[v] w
    (fun r w' => ∃ a' c', r = .tuple #[.agg (recV x a' c').toArray, .int .i64 cd] ∧ Chg No w w' ∧ NewR w w' a' c' x.es) := by
  have hT := c_fTake b hb v w hs
  rw [h] at hT
  exact hT
theorem c_FrameAll (x0 : Rec) (a : Option Addr) (cap : Nat) (hcap : x0.es.length ≤ cap) (hin : RecIn x0) (xb : List UInt8) (v : Value) (hinb : xb.length < 2 ^ 47) (w : World) (H : Cells w a (evsC x0.es)) (hsb : Sl w v xb) : Cl Try.prog 9 #[.agg (recV x0 a cap).toArray, v] w (fun v w' => v = .bool true ∧ Chg No w w') := by
  obtain ⟨ab, cb, rfl, hcb, Hb⟩ := hsb
  refine f_enter (args := [_, _]) Try.func9 rfl rfl ?_
  have mm := Mem.nil No w
  have hew : ClkW (few07 x0).c := clkW_of hin.c
  have hel : (few07 x0).es.length ≤ 22 := by show (x0.es.take 22).length ≤ 22; rw [List.length_take]; omega
  have hxl : x0.es.length ≤ 1000000000000000 := by have := hin.len; omega
  have He : Cells w a (evsC (few07 x0).es) := H.takee 22
  have hfw := fun w' : World => c_few07 x0 (a := a) (cap := cap) w' hcap hxl
  have pp := fun (w' : World) (hw : Cells w' a (evsC (few07 x0).es)) => c_fPut (few07 x0) (cap := cap) w' hw hew
  have pq := fun (w' : World) (hw : Cells w' a (evsC (few07 x0).es)) => c_put07 (few07 x0) (cap := cap) w' hw hew (by omega)
  generalize few07 x0 = y at *
  generalize hP : frPut y = P at *
  refine c_sreg rfl ?_
  refine so (o_bxa mm rfl fun b2 w2 mm => ?_)
  refine s1 (r_asb rfl) ?_
  refine wn ?_
  refine c_sreg rfl ?_
  refine so (o_c0 (c_shown07 _) ?_)
  rintro _ w3 ⟨rfl, hc⟩
  have mm := mm.frame hc
  refine s1 (r_asb rfl) ?_
  refine wn ?_
  refine c_sreg rfl ?_
  refine s1 (r_lda rfl (mm.b 0 rfl) rfl) ?_
  refine so (o_c1 rfl (hfw _) ?_)
  rintro _ w4 ⟨rfl, hc⟩
  have mm := mm.frame hc
  refine so (o_c1 rfl (pp _ (mm.ro He)) ?_)
  rintro _ w5 ⟨a5, c5, rfl, hc, hn⟩
  have mm := mm.new hc hn
  refine s1 (r_mvu rfl) ?_
  refine s1 (r_exts rfl rfl) ?_
  refine s1 (r_exti rfl rfl) ?_
  refine s1 (r_ass rfl) ?_
  refine s1 (r_asi rfl) ?_
  refine wn ?_
  refine c_sreg rfl ?_
  refine s1 (r_lda rfl (mm.b 0 rfl) rfl) ?_
  refine so (o_c1 rfl (hfw _) ?_)
  rintro _ w6 ⟨rfl, hc⟩
  have mm := mm.frame hc
  refine so (o_c1 rfl (pq _ (mm.ro He)) ?_)
  rintro _ w7 ⟨a7, c7, rfl, hc, hn⟩
  have mm := mm.new hc hn
  refine s1 (r_mvu rfl) ?_
  refine s1 (r_exts rfl rfl) ?_
  refine s1 (r_exti rfl rfl) ?_
  refine s1 (r_ass rfl) ?_
  refine s1 (r_asi rfl) ?_
  refine wn ?_
  have mm : Mem w No _ [bk b2 (recV x0 a cap) 47, own 5 1 a5 P.length c5 (u8s P), own 5 1 a7 P.length c7 (u8s P)] := mm
  have hl21 : (xb.take 2100).length ≤ 2100 := by rw [List.length_take]; omega
  have cS := fun w' : World => c_short w xb (.slice ab xb.length cb) w' ⟨ab, cb, rfl, hcb, Hb⟩
  generalize xb.take 2100 = Z at cS hl21
  refine c_sreg rfl ?_
  refine s1 (r_mvs rfl) ?_
  refine so (o_c1 rfl (cS _) ?_)
  rintro _ w8 ⟨⟨af, cf, rfl, hcf, HF⟩, hc⟩
  have mm := mm.frame hc
  refine s1 (r_ass rfl) ?_
  refine wn ?_
  have hw1 := takeF_w Z
  rcases hx : takeF Z with ⟨x, cx⟩
  rw [hx] at hw1
  refine c_sreg rfl ?_
  refine s1 (r_mvs rfl) ?_
  refine so (o_c1 rfl (c_fTakeE2 hx (by omega) _ _ ⟨af, cf, rfl, hcf, mm.ro HF⟩) ?_)
  rintro _ w9 ⟨a9, c9, rfl, hc, hn⟩
  have mm := mm.new hc hn
  refine s1 (r_mvu rfl) ?_
  refine s1 (r_extg rfl rfl) ?_
  refine s1 (r_exti rfl rfl) ?_
  refine so (o_al mm fun b10 w10 mm => ?_)
  refine ss (o_sta mm 4 rfl rfl rfl rfl rfl (Nat.le_of_ble_eq_true rfl) fun w11 mm => ?_)
  refine s1 (r_asi rfl) ?_
  refine wn ?_
  have mm : Mem w No _ [bk b2 (recV x0 a cap) 47, own 5 1 a5 P.length c5 (u8s P), own 5 1 a7 P.length c7 (u8s P), own 25 12 a9 x.es.length c9 (evsC x.es), bk b10 (recV x a9 c9) 47] := mm
  refine c_sreg rfl ?_
  refine s1 (r_mvs rfl) ?_
  refine so (o_c1 rfl (c_take07E hx (by omega) _ _ ⟨af, cf, rfl, hcf, mm.ro HF⟩) ?_)
  rintro _ w12 ⟨a12, c12, rfl, hc, hn⟩
  have mm := mm.new hc hn
  refine s1 (r_mvu rfl) ?_
  refine s1 (r_extg rfl rfl) ?_
  refine s1 (r_exti rfl rfl) ?_
  refine so (o_al mm fun b13 w13 mm => ?_)
  refine ss (o_sta mm 6 rfl rfl rfl rfl rfl (Nat.le_of_ble_eq_true rfl) fun w14 mm => ?_)
  refine s1 (r_asi rfl) ?_
  refine wn ?_
  have mm : Mem w No _ [bk b2 (recV x0 a cap) 47, own 5 1 a5 P.length c5 (u8s P), own 5 1 a7 P.length c7 (u8s P), own 25 12 a9 x.es.length c9 (evsC x.es), bk b10 (recV x a9 c9) 47, own 25 12 a12 x.es.length c12 (evsC x.es), bk b13 (recV x a12 c12) 47] := mm
  have hZl := sealL_length Z
  have hw2 := takeF_w (sealL Z)
  rcases hu : takeF (sealL Z) with ⟨u, cu⟩
  rw [hu] at hw2
  refine c_sreg rfl ?_
  refine s1 (r_mvs rfl) ?_
  refine so (o_c1 rfl (c_seal Z (by omega) _ _ ⟨af, cf, rfl, hcf, mm.ro HF⟩) ?_)
  rintro _ w15 ⟨a15, c15, rfl, hc, hn⟩
  have mm := mm.new hc hn
  refine so (o_c1 rfl (c_fTakeE2 hu (by omega) _ _ (Sl.own mm 7 rfl)) ?_)
  rintro _ w16 ⟨a16, c16, rfl, hc, hn⟩
  have mm := mm.new hc hn
  refine s1 (r_mvu rfl) ?_
  refine s1 (r_extg rfl rfl) ?_
  refine s1 (r_exti rfl rfl) ?_
  refine so (o_al mm fun b17 w17 mm => ?_)
  refine ss (o_sta mm 9 rfl rfl rfl rfl rfl (Nat.le_of_ble_eq_true rfl) fun w18 mm => ?_)
  refine s1 (r_asi rfl) ?_
  refine wn ?_
  have mm : Mem w No _ [bk b2 (recV x0 a cap) 47, own 5 1 a5 P.length c5 (u8s P), own 5 1 a7 P.length c7 (u8s P), own 25 12 a9 x.es.length c9 (evsC x.es), bk b10 (recV x a9 c9) 47, own 25 12 a12 x.es.length c12 (evsC x.es), bk b13 (recV x a12 c12) 47, own 25 12 a16 u.es.length c16 (evsC u.es), bk b17 (recV u a16 c16) 47] := mm.pk [0, 1, 2, 3, 4, 5, 6, 8, 9] (by decide)
  refine c_sreg rfl ?_
  refine s1 (r_mvs rfl) ?_
  refine so (o_c1 rfl (c_seal Z (by omega) _ _ ⟨af, cf, rfl, hcf, mm.ro HF⟩) ?_)
  rintro _ w19 ⟨a19, c19, rfl, hc, hn⟩
  have mm := mm.new hc hn
  refine so (o_c1 rfl (c_take07E hu (by omega) _ _ (Sl.own mm 9 rfl)) ?_)
  rintro _ w20 ⟨a20, c20, rfl, hc, hn⟩
  have mm := mm.new hc hn
  refine s1 (r_mvu rfl) ?_
  refine s1 (r_extg rfl rfl) ?_
  refine s1 (r_exti rfl rfl) ?_
  refine so (o_al mm fun b21 w21 mm => ?_)
  refine ss (o_sta mm 11 rfl rfl rfl rfl rfl (Nat.le_of_ble_eq_true rfl) fun w22 mm => ?_)
  refine s1 (r_asi rfl) ?_
  refine wn ?_
  have mm : Mem w No _ [bk b2 (recV x0 a cap) 47, own 5 1 a5 P.length c5 (u8s P), own 5 1 a7 P.length c7 (u8s P), own 25 12 a9 x.es.length c9 (evsC x.es), bk b10 (recV x a9 c9) 47, own 25 12 a12 x.es.length c12 (evsC x.es), bk b13 (recV x a12 c12) 47, own 25 12 a16 u.es.length c16 (evsC u.es), bk b17 (recV u a16 c16) 47, own 25 12 a20 u.es.length c20 (evsC u.es), bk b21 (recV u a20 c20) 47] := mm.pk [0, 1, 2, 3, 4, 5, 6, 7, 8, 10, 11] (by decide)
  refine c_sreg rfl ?_
  refine s1 (r_mvb rfl) ?_
  refine s1 (r_mvb rfl) ?_
  refine s1k rfl (show _ = Value.bool true from rfl) (r_mvs rfl) ?_
  refine s1k rfl (show _ = Value.bool true from rfl) (r_b2s rfl (mm.c 1 rfl) rfl) ?_
  refine s1k rfl (show _ = Value.bool true from rfl) (r_mvs rfl) ?_
  refine s1k rfl (show _ = Value.bool true from rfl) (r_b2s rfl (mm.c 2 rfl) rfl) ?_
  refine s1k rfl (show _ = Value.bool true from rfl) (r_seq rfl rfl) ?_
  refine s1 (r_and (show _ = Value.bool true from rfl) (congrArg Value.bool (decide_eq_true rfl))) ?_
  refine s1 (r_mvb rfl) ?_
  refine s1k rfl (show _ = Value.bool true from rfl) (r_mvi rfl) ?_
  refine s1k rfl (show _ = Value.bool true from rfl) (r_mvi rfl) ?_
  refine s1k rfl (show _ = Value.bool true from rfl) (r_eq rfl rfl) ?_
  refine s1 (r_and (show _ = Value.bool true from rfl) (congrArg Value.bool (decide_eq_true rfl))) ?_
  refine s1 (r_mvb rfl) ?_
  refine s1k rfl (show _ = Value.bool true from rfl) (r_lda rfl (mm.b 4 rfl) rfl) ?_
  refine s1k rfl (show _ = Value.bool true from rfl) (r_lda rfl (mm.b 6 rfl) rfl) ?_
  refine sok rfl (show _ = Value.bool true from rfl) (o_c2 rfl rfl (c_same07 x x hw1 hw1 _ (mm.c 3 rfl) (mm.c 5 rfl)) ?_)
  rintro _ w23 ⟨rfl, hc⟩
  have mm := mm.frame hc
  refine s1 (r_and (show _ = Value.bool true from rfl) (congrArg Value.bool (decide_eq_true rfl))) ?_
  refine s1 (r_mvb rfl) ?_
  refine s1k rfl (show _ = Value.bool true from rfl) (r_mvi rfl) ?_
  refine s1k rfl (show _ = Value.bool true from rfl) (r_mvi rfl) ?_
  refine s1k rfl (show _ = Value.bool true from rfl) (r_eq rfl rfl) ?_
  refine s1 (r_and (show _ = Value.bool true from rfl) (congrArg Value.bool (decide_eq_true rfl))) ?_
  refine s1 (r_mvb rfl) ?_
  refine s1k rfl (show _ = Value.bool true from rfl) (r_lda rfl (mm.b 8 rfl) rfl) ?_
  refine s1k rfl (show _ = Value.bool true from rfl) (r_lda rfl (mm.b 10 rfl) rfl) ?_
  refine sok rfl (show _ = Value.bool true from rfl) (o_c2 rfl rfl (c_same07 u u hw2 hw2 _ (mm.c 7 rfl) (mm.c 9 rfl)) ?_)
  rintro _ w24 ⟨rfl, hc⟩
  have mm := mm.frame hc
  refine s1 (r_and (show _ = Value.bool true from rfl) (congrArg Value.bool (decide_eq_true rfl))) ?_
  refine s1 (r_mvb rfl) ?_
  refine s1k rfl (show _ = Value.bool true from rfl) (r_mvi rfl) ?_
  refine s1k rfl (show _ = Value.bool true from rfl) (r_mvi rfl) ?_
  refine s1k rfl (show _ = Value.bool true from rfl) (r_eq rfl rfl) ?_
  refine s1 (r_and (show _ = Value.bool true from rfl) (congrArg Value.bool (decide_eq_true rfl))) ?_
  refine s1 (r_asb rfl) ?_
  refine wn ?_
  exact c_ret (ret1 rfl rfl ⟨rfl, mm.chg⟩)
end Go.Proofs.Ytgdbbaggkoillaa
/- Bytes that are handed in, opened. -/
namespace Go.Proofs.Ytgdbbaggkoillaa
open Go.ChangeShapes Go.WideShapes Go.ChangeAt Go.RowKit
open K
set_option maxRecDepth 100000
section
variable {H : Type} {enc : TypeId × Value → H} {w : World} {base : Nat} {sp : Nat → Bool} {held : Bool}
theorem cells5 : Try.prog.cellsOf 5 = 1 := by kernel_rfl
theorem bytes5 : Try.prog.bytesOf 5 = 1 := by kernel_rfl
theorem u8_wf {n : Int} (h : (Lit.int .u8 n).wf = true) : 0 ≤ n ∧ n ≤ 255 := by
  simpa [Lit.wf, IntKind.min, IntKind.max, IntKind.signed, IntKind.bits] using h
theorem open_bytes {b0 : Nat} {v : Value} {d : DataW H} {p : List MemPlace} (hv : Value.okWide Try.prog w .any b0 28 v) (h : DataW.Trod enc Try.prog w base sp held 28 v d p)
    (hw : (d.weights Try.prog 28).all (· ≤ reachBytes) = true) : ∃ b : List UInt8, Sl w v b ∧ b.length < 2 ^ 47 := by
  obtain ⟨a1, len, cap, rfl⟩ := okWide_slice Try.underlying28 hv
  obtain ⟨fuel, hf⟩ := h
  rcases open_ints Try.underlying28 Try.underlying5 cells5 hf with ⟨hcs, hx⟩ | ⟨a, len', cap', zs, hcs, _, hl, hm, hz, hx, hcell, hwz⟩
  · simp [Value.cells] at hcs
    obtain ⟨rfl, rfl, rfl⟩ := hcs
    exact ⟨[], ⟨none, 0, rfl, Nat.le_refl _, Cells.nil _ _⟩, by decide⟩
  · simp [Value.cells] at hcs
    obtain ⟨rfl, rfl, rfl⟩ := hcs
    simp only [Prod.mk.injEq] at hx
    obtain ⟨rfl, rfl⟩ := hx
    have hzl : len ≤ zs.length := by split at hz <;> omega
    have hlen : ((zs.take len).map fun n => UInt8.ofNat n.toNat).length = len := by simp; omega
    refine ⟨(zs.take len).map fun n => UInt8.ofNat n.toNat, ⟨some a, cap, by rw [hlen], by rw [hlen]; exact hl, fun j u hj => ⟨a, rfl, ?_⟩⟩, ?_⟩
    · rw [nth_eq] at hj
      simp only [u8s, List.map_map, List.getElem?_map, Option.map_eq_some_iff] at hj
      obtain ⟨n, hn, rfl⟩ := hj
      rw [List.getElem?_take] at hn
      split at hn
      · rename_i hjl
        obtain ⟨hjz, hjn⟩ := List.getElem?_eq_some_iff.1 hn
        rw [hcell j hjz]
        have hnw := u8_wf (hwz n (List.mem_of_getElem? hn))
        have : zs.getD j 0 = n := by simp [List.getD, hn]
        rw [this]
        simp [u8]
        omega
      · cases hn
    · rw [hlen]
      simp only [DataW.weights, Try.underlying28, List.all_cons, Bool.and_eq_true, decide_eq_true_eq, bytes5] at hw
      have h1 := hw.1
      have h2 := reachBytes_lt
      simp [lits] at h1
      omega
end
end Go.Proofs.Ytgdbbaggkoillaa
/- A record that is handed in, opened; a list of events; a list of records. -/
namespace Go.Proofs.Ytgdbbaggkoillaa
open Go.ChangeShapes Go.WideShapes Go.ChangeAt Go.RowKit
open K
set_option maxRecDepth 100000
section
variable {H : Type} {enc : TypeId × Value → H} {w : World} {base : Nat} {sp : Nat → Bool} {held : Bool}
theorem weightsAll_in {P : Program} {e : TypeId} : ∀ {l : List (DataW H)} {d : DataW H}, d ∈ l → ∀ n ∈ d.weights P e, n ∈ DataW.weightsAll P e l
  | d' :: l, d, h, n, hn => by
    rw [DataW.weightsAll, List.mem_append]
    rcases List.mem_cons.1 h with rfl | h
    · exact .inl hn
    · exact .inr (weightsAll_in h n hn)
theorem flat_get {α : Type} (C : α → List Value) (n : Nat) (hn : 0 < n) (hC : ∀ x, (C x).length = n) : ∀ (l : List α) (j : Nat), (l.flatMap C)[j]? = (l[j / n]?).bind fun x => (C x)[j % n]?
  | [], j => by simp
  | x :: l, j => by
    rw [List.flatMap_cons]
    by_cases hj : j < n
    · rw [List.getElem?_append_left (by rw [hC]; exact hj), Nat.div_eq_of_lt hj, Nat.mod_eq_of_lt hj]; rfl
    · rw [List.getElem?_append_right (by rw [hC]; omega), hC, flat_get C n hn hC l (j - n)]
      have h1 : j / n = (j - n) / n + 1 := by rw [Nat.div_eq_sub_div hn (by omega)]
      have h2 : j % n = (j - n) % n := Nat.mod_eq_sub_mod (by omega)
      rw [h1, h2]; rfl
theorem trod_rows {α : Type} {P : Program} {t e n fuel : Nat} {cs : List Value} {y : DataW H × List MemPlace} (C : α → List Value) (Q : α → DataW H → Prop) (ht : P.underlying t = some (.slice e)) (hc : P.cellsOf e = n) (hn : 0 < n) (hC : ∀ x, (C x).length = n)
    (each : ∀ fuel cs y, DataW.trod enc P w base sp held fuel e cs = some y → ∃ x, cs = C x ∧ Q x y.1) (h : DataW.trod enc P w base sp held fuel t cs = some y) :
    ∃ (a : Option Addr) (l : List α) (cap : Nat), cs = [.slice a l.length cap] ∧ l.length ≤ cap ∧ cap ≤ maxLen ∧ Cells w a (l.flatMap C) ∧
      ((l = [] ∧ y.1 = .nil) ∨ ∃ ds spare, y.1 = .slice ds spare ∧ ds.length = l.length ∧ ∀ (i : Nat) (hi : i < l.length) (hd : i < ds.length), Q l[i] ds[i]) := by
  rcases DataW.trod_slice ht h with ⟨h1, h2⟩ | ⟨a, len, cap, elems, rest, m, _, rfl, rfl, hb, hl, hm, hlen, hel, hsp, hns⟩
  · exact ⟨none, [], 0, h1, Nat.le_refl _, Nat.zero_le _, Cells.nil _ _, .inl ⟨rfl, by rw [h2]⟩⟩
  · have hx : ∀ i : Fin len, ∃ x, (w.cells? base (a.add (i.1 * n)) n) = some (C x) ∧ ∃ z, elems[i.1]? = some z ∧ Q x z.1 := by
      intro i
      have hi := i.2
      have h1 := hel i.1 hi
      have h2 : i.1 < elems.length := by omega
      rw [List.getElem?_eq_getElem h2, Option.bind_eq_some_iff, hc] at h1
      obtain ⟨cs', h3, h4⟩ := h1
      obtain ⟨x, rfl, hq⟩ := each _ _ _ h4
      exact ⟨x, h3, _, List.getElem?_eq_getElem h2, hq⟩
    refine ⟨some a, List.ofFn fun i => Classical.choose (hx i), cap, by rw [List.length_ofFn], by rw [List.length_ofFn]; exact hl, hm, ?_, .inr ⟨elems.map (·.1), rest.map (·.1), rfl, by rw [List.length_map, List.length_ofFn]; exact hlen, ?_⟩⟩
    · intro j v hj
      rw [nth_eq, flat_get C n hn hC, Option.bind_eq_some_iff] at hj
      obtain ⟨x, hx1, hx2⟩ := hj
      obtain ⟨hlt, hget⟩ := List.getElem?_eq_some_iff.1 hx1
      rw [List.length_ofFn] at hlt
      rw [List.getElem_ofFn] at hget
      have hspec := Classical.choose_spec (hx ⟨j / n, hlt⟩)
      rw [hget] at hspec
      have h5 := (World.cells?_some hspec.1).2.2 (j % n) (Nat.mod_lt _ hn)
      refine ⟨a, rfl, ?_⟩
      rw [Addr.add_add] at h5
      have h6 : j / n * n + j % n = j := by rw [Nat.mul_comm]; exact Nat.div_add_mod j n
      rw [h6] at h5
      rw [h5]; exact hx2
    · intro i hi hd
      rw [List.length_ofFn] at hi
      rw [List.getElem_ofFn, List.getElem_map]
      obtain ⟨_, z, hz, hq⟩ := Classical.choose_spec (hx ⟨i, hi⟩)
      obtain ⟨hz1, hz2⟩ := List.getElem?_eq_some_iff.1 hz
      have h7 : elems[i] = z := hz2
      rw [h7]; exact hq
theorem cells41 : Try.prog.cellsOf 41 = 1 := by kernel_rfl
theorem cells43 : Try.prog.cellsOf 43 = 9 := by kernel_rfl
theorem bytes25 : Try.prog.bytesOf 25 = 112 := by kernel_rfl
theorem trod_evs {fuel : Nat} {cs : List Value} {y : DataW H × List MemPlace} (h : DataW.trod enc Try.prog w base sp held fuel 41 cs = some y) :
    ∃ (a : Option Addr) (l : List Ev) (cap : Nat), cs = [.slice a l.length cap] ∧ l.length ≤ cap ∧ Cells w a (evsC l) ∧ ((y.1.weights Try.prog 41).all (· ≤ reachBytes) = true → l.length < 2 ^ 47 ∧ ∀ x ∈ l, EvIn x) := by
  obtain ⟨a, l, cap, h1, h2, _, h3, h4⟩ := trod_rows (C := evC) (Q := fun x d => d = evD H x ∧ (((evD H x).weights Try.prog 25).all (· ≤ reachBytes) = true → EvIn x)) Try.underlying41 cells25 (by decide) evC_length
    (fun fuel cs y hh => by
      obtain ⟨x, hx1, hx2, hx3⟩ := trod_ev hh
      exact ⟨x, hx1, by rw [hx2], hx3⟩) h
  refine ⟨a, l, cap, h1, h2, h3, fun hw => ?_⟩
  rcases h4 with ⟨rfl, _⟩ | ⟨ds, spare, hy, hdl, hq⟩
  · exact ⟨by decide, fun x hx => by cases hx⟩
  · rw [hy] at hw
    simp only [DataW.weights, Try.underlying41, List.all_cons, List.all_append, Bool.and_eq_true, decide_eq_true_eq, bytes25] at hw
    refine ⟨?_, fun x hx => ?_⟩
    · have := reachBytes_lt
      have := hw.1
      omega
    · obtain ⟨i, hi, rfl⟩ := List.mem_iff_getElem.1 hx
      have hd : i < ds.length := by omega
      obtain ⟨e1, e2⟩ := hq i hi hd
      refine e2 (List.all_eq_true.2 fun m hm => ?_)
      exact List.all_eq_true.1 hw.2.1 m (weightsAll_in (List.getElem_mem hd) m (by rw [e1]; exact hm))
def recD (H : Type) (x : Rec) (d : DataW H) : DataW H := .agg [.lit (.int .i64 x.kind), .lit (.int .i64 x.r), .lit (.int .i64 x.upto), .agg [.lit (.int .i64 x.c.c0), .lit (.int .i64 x.c.c1), .lit (.int .i64 x.c.c2), .lit (.int .i64 x.c.c3), .lit (.int .i64 x.c.c4)], d]
theorem list9 {α : Type} {l : List α} (h : l.length = 9) : ∃ a0 a1 a2 a3 a4 a5 a6 a7 a8, l = [a0, a1, a2, a3, a4, a5, a6, a7, a8] := by
  match l, h with
  | [a0, a1, a2, a3, a4, a5, a6, a7, a8], _ => exact ⟨a0, a1, a2, a3, a4, a5, a6, a7, a8, rfl⟩
theorem trod_rec {n : Nat} {cs : List Value} {y : DataW H × List MemPlace} (h : DataW.trod enc Try.prog w base sp held n 43 cs = some y) :
    ∃ (x : Rec) (a : Option Addr) (cap : Nat) (d : DataW H), cs = recV x a cap ∧ x.es.length ≤ cap ∧ Cells w a (evsC x.es) ∧ y.1 = recD H x d ∧ (((recD H x d).weights Try.prog 43).all (· ≤ reachBytes) = true → RecIn x) := by
  obtain ⟨xs, m, _, hx, hl, hlen, hf⟩ := DataW.trod_struct Try.underlying43 h
  obtain ⟨y0, y1, y2, y3, y4, rfl⟩ := list5 hlen
  rw [cells43] at hl
  obtain ⟨c0, c1, c2, c3, c4, c5, c6, c7, c8, rfl⟩ := list9 hl
  have g0 : DataW.trod enc Try.prog w base sp held m 3 (List.take (Try.prog.cellsOf 3) _) = _ := hf 0 _ rfl
  rw [cells3] at g0
  have g1 : DataW.trod enc Try.prog w base sp held m 3 (List.take (Try.prog.cellsOf 3) _) = _ := hf 1 _ rfl
  rw [cells3] at g1
  have g2 : DataW.trod enc Try.prog w base sp held m 3 (List.take (Try.prog.cellsOf 3) _) = _ := hf 2 _ rfl
  rw [cells3] at g2
  have g3 : DataW.trod enc Try.prog w base sp held m 23 (List.take (Try.prog.cellsOf 23) _) = _ := hf 3 _ rfl
  rw [cells23] at g3
  have g4 : DataW.trod enc Try.prog w base sp held m 41 (List.take (Try.prog.cellsOf 41) _) = _ := hf 4 _ rfl
  rw [cells41] at g4
  obtain ⟨n0, e0, rfl, w0⟩ := DataW.trod_int Try.underlying3 g0
  obtain ⟨n1, e1, rfl, w1⟩ := DataW.trod_int Try.underlying3 g1
  obtain ⟨n2, e2, rfl, w2⟩ := DataW.trod_int Try.underlying3 g2
  obtain ⟨c, e3, rfl, w3⟩ := trod_clk g3
  obtain ⟨a, l, cap, e4, hcap, hcell, w4⟩ := trod_evs g4
  refine ⟨⟨n0, n1, n2, c, l⟩, a, cap, y4.1, ?_, hcap, hcell, by rw [hx]; rfl, ?_⟩
  · injection e0 with e0; injection e1 with e1; injection e2 with e2; injection e4 with e4
    injection e3 with q0 e3; injection e3 with q1 e3; injection e3 with q2 e3; injection e3 with q3 e3; injection e3 with q4 e3
    subst e0; subst e1; subst e2; subst e4; subst q0; subst q1; subst q2; subst q3; subst q4
    rfl
  · intro hw
    simp only [recD, DataW.weights, Try.underlying43, Try.underlying23, Try.underlying3, DataW.weightsEach, DataW.weightsAll, List.map, List.nil_append, List.append_nil] at hw
    obtain ⟨h47, hes⟩ := w4 hw
    exact ⟨i64_wf w0, i64_wf w1, i64_wf w2, w3, h47, hes⟩
theorem open_rec {b0 : Nat} {v : Value} {d : DataW H} {p : List MemPlace} (hv : Value.okWide Try.prog w .any b0 43 v) (h : DataW.Trod enc Try.prog w base sp held 43 v d p)
    (hw : (d.weights Try.prog 43).all (· ≤ reachBytes) = true) : ∃ (x : Rec) (a : Option Addr) (cap : Nat), v = .agg (recV x a cap).toArray ∧ x.es.length ≤ cap ∧ Cells w a (evsC x.es) ∧ RecIn x := by
  obtain ⟨⟨l⟩, rfl, hsz⟩ := okWide_struct Try.underlying43 hv
  obtain ⟨fuel, hf⟩ := h
  obtain ⟨x, a, cap, d', hc, hcap, hcell, hy, hin⟩ := trod_rec (show DataW.trod enc Try.prog w base sp held fuel 43 l = some (d, p) from hf)
  subst hc
  have hy : d = recD H x d' := hy
  subst hy
  exact ⟨x, a, cap, rfl, hcap, hcell, hin hw⟩
end
end Go.Proofs.Ytgdbbaggkoillaa
/- A frame that is handed in, opened. -/
namespace Go.Proofs.Ytgdbbaggkoillaa
open Go.ChangeShapes Go.WideShapes Go.ChangeAt Go.RowKit
open K
set_option maxRecDepth 100000
section
variable {H : Type} {enc : TypeId × Value → H} {w : World} {base : Nat} {sp : Nat → Bool} {held : Bool}
theorem cells47 : Try.prog.cellsOf 47 = 9 := by kernel_rfl
def frD (H : Type) (x : Rec) (d : DataW H) : DataW H := recD H x d
theorem trod_frame {n : Nat} {cs : List Value} {y : DataW H × List MemPlace} (h : DataW.trod enc Try.prog w base sp held n 47 cs = some y) :
    ∃ (x : Rec) (a : Option Addr) (cap : Nat) (d : DataW H), cs = recV x a cap ∧ x.es.length ≤ cap ∧ Cells w a (evsC x.es) ∧ y.1 = recD H x d ∧ (((recD H x d).weights Try.prog 47).all (· ≤ reachBytes) = true → RecIn x) := by
  obtain ⟨xs, m, _, hx, hl, hlen, hf⟩ := DataW.trod_struct Try.underlying47 h
  obtain ⟨y0, y1, y2, y3, y4, rfl⟩ := list5 hlen
  rw [cells47] at hl
  obtain ⟨c0, c1, c2, c3, c4, c5, c6, c7, c8, rfl⟩ := list9 hl
  have g0 : DataW.trod enc Try.prog w base sp held m 3 (List.take (Try.prog.cellsOf 3) _) = _ := hf 0 _ rfl
  rw [cells3] at g0
  have g1 : DataW.trod enc Try.prog w base sp held m 3 (List.take (Try.prog.cellsOf 3) _) = _ := hf 1 _ rfl
  rw [cells3] at g1
  have g2 : DataW.trod enc Try.prog w base sp held m 3 (List.take (Try.prog.cellsOf 3) _) = _ := hf 2 _ rfl
  rw [cells3] at g2
  have g3 : DataW.trod enc Try.prog w base sp held m 23 (List.take (Try.prog.cellsOf 23) _) = _ := hf 3 _ rfl
  rw [cells23] at g3
  have g4 : DataW.trod enc Try.prog w base sp held m 41 (List.take (Try.prog.cellsOf 41) _) = _ := hf 4 _ rfl
  rw [cells41] at g4
  obtain ⟨n0, e0, rfl, w0⟩ := DataW.trod_int Try.underlying3 g0
  obtain ⟨n1, e1, rfl, w1⟩ := DataW.trod_int Try.underlying3 g1
  obtain ⟨n2, e2, rfl, w2⟩ := DataW.trod_int Try.underlying3 g2
  obtain ⟨c, e3, rfl, w3⟩ := trod_clk g3
  obtain ⟨a, l, cap, e4, hcap, hcell, w4⟩ := trod_evs g4
  refine ⟨⟨n0, n1, n2, c, l⟩, a, cap, y4.1, ?_, hcap, hcell, by rw [hx]; rfl, ?_⟩
  · injection e0 with e0; injection e1 with e1; injection e2 with e2; injection e4 with e4
    injection e3 with q0 e3; injection e3 with q1 e3; injection e3 with q2 e3; injection e3 with q3 e3; injection e3 with q4 e3
    subst e0; subst e1; subst e2; subst e4; subst q0; subst q1; subst q2; subst q3; subst q4
    rfl
  · intro hw
    simp only [recD, DataW.weights, Try.underlying47, Try.underlying23, Try.underlying3, DataW.weightsEach, DataW.weightsAll, List.map, List.nil_append, List.append_nil] at hw
    obtain ⟨h47, hes⟩ := w4 hw
    exact ⟨i64_wf w0, i64_wf w1, i64_wf w2, w3, h47, hes⟩
theorem open_frame {b0 : Nat} {v : Value} {d : DataW H} {p : List MemPlace} (hv : Value.okWide Try.prog w .any b0 47 v) (h : DataW.Trod enc Try.prog w base sp held 47 v d p)
    (hw : (d.weights Try.prog 47).all (· ≤ reachBytes) = true) : ∃ (x : Rec) (a : Option Addr) (cap : Nat), v = .agg (recV x a cap).toArray ∧ x.es.length ≤ cap ∧ Cells w a (evsC x.es) ∧ RecIn x := by
  obtain ⟨⟨l⟩, rfl, hsz⟩ := okWide_struct Try.underlying47 hv
  obtain ⟨fuel, hf⟩ := h
  obtain ⟨x, a, cap, d', hc, hcap, hcell, hy, hin⟩ := trod_frame (show DataW.trod enc Try.prog w base sp held fuel 47 l = some (d, p) from hf)
  subst hc
  have hy : d = recD H x d' := hy
  subst hy
  exact ⟨x, a, cap, rfl, hcap, hcell, hin hw⟩
end
end Go.Proofs.Ytgdbbaggkoillaa
