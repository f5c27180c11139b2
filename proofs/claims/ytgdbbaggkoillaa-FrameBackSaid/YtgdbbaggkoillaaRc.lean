/- kithref18.Fit, kithlaw18.shown: walks. -/
import Derived.Test.YtgdbbaggkoillaaRb
import Derived.Test.YtgdbbaggkoillaaEz
import Derived.Test.YtgdbbaggkoillaaKn
namespace Go.Proofs.Ytgdbbaggkoillaa
open K
set_option maxRecDepth 100000
set_option maxHeartbeats 4000000

structure RecIn (x : Rec) : Prop where
  kind : i64 x.kind
  r : i64 x.r
  upto : i64 x.upto
  c : ∀ i, i < 5 → i64 (x.c.get i)
  len : x.es.length < 2 ^ 47
  es : ∀ y ∈ x.es, EvIn y
theorem nth_rvi (x : Rec) (a : Option Addr) (cap : Nat) (i : Nat) (h : i < 5) : nth (recV x a cap) (0 + 3 + (i : Int).toNat * 1) = some (.int .i64 (x.c.get i)) := by
  match i, h with
  | 0, _ => rfl | 1, _ => rfl | 2, _ => rfl | 3, _ => rfl | 4, _ => rfl
theorem blt_rvi (x : Rec) (a : Option Addr) (cap : Nat) (i : Nat) (h : i < 5) : Nat.blt (0 + 3 + (i : Int).toNat * 1) (recV x a cap).length = true := by
  match i, h with
  | 0, _ => rfl | 1, _ => rfl | 2, _ => rfl | 3, _ => rfl | 4, _ => rfl
theorem setN_rvi (x : Rec) (a : Option Addr) (cap : Nat) (i : Nat) (h : i < 5) (v : Int) : setN (recV x a cap) (0 + 3 + (i : Int).toNat * 1) (.int .i64 v) = recV { x with c := x.c.set i v } a cap := by
  match i, h with
  | 0, _ => rfl | 1, _ => rfl | 2, _ => rfl | 3, _ => rfl | 4, _ => rfl
def rec0 : Rec := ⟨0, 0, 0, clk0, []⟩
theorem K.Mem.castc {w0 w : World} {F0 : Nat → Prop} {I J : It} {b : Nat} {cs cs' : List Value} {T : TypeId} (h : Mem w0 F0 w [I, J, bk b cs T]) (hc : cs = cs') : Mem w0 F0 w [I, J, bk b cs' T] := by subst hc; exact h
theorem K.Mem.castd {w0 w : World} {F0 : Nat → Prop} {I J : It} {b : Nat} {cs cs' ds ds' : List Value} {T T' : TypeId} {sz n n' c : Nat} {a : Option Addr} (h : Mem w0 F0 w [I, J, bk b cs T, own T' sz a n c ds]) (hc : cs = cs') (hn : n = n') (hd : ds = ds') : Mem w0 F0 w [I, J, bk b cs' T, own T' sz a n' c ds'] := by subst hc; subst hn; subst hd; exact h
theorem clkW_of {c : Clk} (h : ∀ i, i < 5 → i64 (c.get i)) : ClkW c := ⟨h 0 (by decide), h 1 (by decide), h 2 (by decide), h 3 (by decide), h 4 (by decide)⟩

theorem fitEs_snoc (l : List Ev) (i : Nat) (h : i < l.length) (hi : i < 30) : fitEs (l.take (i + 1)) = fitEs (l.take i) ++ [fitEv l[i]] := by
  unfold fitEs
  rw [List.take_take, List.take_take, Nat.min_eq_right (by omega), Nat.min_eq_right (by omega), List.take_succ_eq_append_getElem h, List.map_append]; rfl
theorem fitEs_all (l : List Ev) : fitEs (l.take 30) = fitEs l := by
  unfold fitEs
  rw [List.take_take, Nat.min_self]
theorem fitEs_len2 (l : List Ev) (i : Nat) (h : i ≤ l.length) (hi : i ≤ 30) : (fitEs (l.take i)).length = i := by
  unfold fitEs
  rw [List.length_map, List.length_take, List.length_take]; omega
def NewR (w w' : World) (a : Option Addr) (cap : Nat) (l : List Ev) : Prop := New w w' (own 25 12 a l.length cap (evsC l))
theorem c_fit18 (x : Rec) {a : Option Addr} {cap : Nat} (w : World) (H : Cells w a (evsC x.es)) (hin : RecIn x) : Cl Try.prog 27 #[.agg (recV x a cap).toArray] w
    (fun v w' => ∃ a' c', v = .agg (recV (fitRec x) a' c').toArray ∧ Chg No w w' ∧ NewR w w' a' c' (fitRec x).es) := by
  have hq := tmod_in x.kind 6 (by decide)
  have hq5 := tmod_in x.r 5 (by decide)
  have hk6 := fit6R_in x.kind
  have hlen := hin.len
  refine f_enter (args := [_]) Try.func27 rfl rfl ?_
  have mm := Mem.nil No w
  refine c_sreg rfl ?_
  refine so (o_bxa mm rfl fun b2 w2 mm => ?_)
  refine so (o_al mm fun b3 w3 mm => ?_)
  refine wn ?_
  refine c_sreg rfl ?_
  refine s1 (r_fa rfl) ?_
  refine s1 (r_ld rfl (mm.b 0 rfl) rfl) ?_
  refine s1 (r_rem rfl rfl (by decide) rfl) ?_
  refine s1 (r_add rfl rfl (wi (by omega) (by omega))) ?_
  refine s1 (r_rem rfl rfl (by decide) rfl) ?_
  refine s1 (r_add rfl rfl (show IntKind.i64.wrap (1 + ((x.kind.tmod 6) + 6).tmod 6) = fit6R x.kind from wi (by unfold fit6R at hk6; omega) (by unfold fit6R at hk6; omega))) ?_
  refine s1 (r_fa rfl) ?_
  refine s1 (r_ld rfl (mm.b 0 rfl) rfl) ?_
  refine s1 (r_rem rfl rfl (by decide) rfl) ?_
  refine s1 (r_add rfl rfl (wi (by omega) (by omega))) ?_
  refine s1 (r_rem rfl rfl (by decide) (show _ = fitR x.r from rfl)) ?_
  refine s1 (r_bd (bi rfl (bi rfl bN)) rfl) ?_
  refine so (o_al mm fun b4 w4 mm => ?_)
  refine ss (o_sta mm 2 rfl rfl rfl rfl rfl (Nat.le_of_ble_eq_true rfl) fun w5 mm => ?_)
  refine wn ?_
  have mm : Mem w No _ [bk b2 (recV x a cap) 43, bk b3 (recV rec0 none 0) 43, bk b4 (recV ⟨fit6R x.kind, fitR x.r, 0, clk0, []⟩ none 0) 43] := mm
  generalize hk : fit6R x.kind = k at *
  generalize hu : (if k = 3 ∨ k = 4 then m20 x.upto else 0) = u
  refine c_seq ?_
  refine c_sreg rfl ?_
  refine s1 (r_fa rfl) ?_
  refine s1 (r_ld rfl (mm.b 2 rfl) rfl) ?_
  refine s1 (r_eq rfl rfl) ?_
  refine s1 (r_mvb rfl) ?_
  refine sF rfl rfl (fun h => r_fa rfl) ?_
  refine sF rfl rfl (fun h => r_ld (sel_t h :) (mm.b 2 rfl) rfl) ?_
  refine sF rfl rfl (fun h => r_eq (sel_t h :) rfl) ?_
  refine s1 (r_or rfl rfl) ?_
  refine wn ?_
  refine c_mid0 (fun e w' => e 1 = .pointer (some ⟨b2, 0, none⟩) ∧ e 2 = .pointer (some ⟨b3, 0, none⟩) ∧ e 3 = .pointer (some ⟨b4, 0, none⟩) ∧ Mem w No w' [bk b2 (recV x a cap) 43, bk b3 (recV rec0 none 0) 43, bk b4 (recV ⟨k, fitR x.r, u, clk0, []⟩ none 0) 43]) ?_ ?_
  · refine c_cond rfl (fun h => ?_) (fun h => (c_skip (t_n ?_)))
    · have h34 : k = 3 ∨ k = 4 := by simp at h; omega
      rw [if_pos h34] at hu
      subst hu
      refine c_region rfl ?_
      refine s1 (r_fa rfl) ?_
      refine s1 (r_ld rfl (mm.b 0 rfl) rfl) ?_
      refine s1 (r_band rfl rfl rfl) ?_
      refine s1 (r_fa rfl) ?_
      refine ss (o_st mm 2 rfl rfl rfl rfl rfl fun w6 mm => ?_)
      refine wn (t_n ?_)
      exact ⟨rfl, rfl, rfl, mm⟩
    · have h34 : ¬ (k = 3 ∨ k = 4) := by simp at h; omega
      rw [if_neg h34] at hu
      subst hu
      exact ⟨rfl, rfl, rfl, mm⟩
  clear mm
  rintro e w9 ⟨h1, h2, h3, mm⟩
  refine c_seq ?_
  refine c_sreg rfl ?_
  refine s1 (r_fa h3) ?_
  refine s1 (r_ld rfl (mm.b 2 rfl) rfl) ?_
  refine s1 (r_eq rfl rfl) ?_
  refine wn ?_
  refine c_cond rfl (fun h => ?_) (fun h => (c_skip (t_n ?_)))
  · have h6 : k = 6 := by simpa using h
    clear h
    have hu0 : u = 0 := by rw [← hu]; exact if_neg (by omega)
    subst hu0
    subst h6
    refine c_seq ?_
    refine c_sreg rfl ?_
    refine s1 (r_asi rfl) ?_
    refine wn ?_
    refine c_block ?_
    refine c_loop (fun kk e w' => ∃ (i : Nat) (c : Clk), kk + i = 5 ∧ e 1 = .pointer (some ⟨b2, 0, none⟩) ∧ e 2 = .pointer (some ⟨b3, 0, none⟩) ∧ e 3 = .pointer (some ⟨b4, 0, none⟩) ∧ e 4 = .int .i64 i ∧ Mem w No w' [bk b2 (recV x a cap) 43, bk b3 (recV rec0 none 0) 43, bk b4 (recV ⟨6, fitR x.r, 0, c, []⟩ none 0) 43] ∧ ∀ j, j < i → j < 5 → c.get j = m20 (x.c.get j)) 5 ?_ ?_
    · exact ⟨0, clk0, rfl, h1, h2, h3, rfl, mm, fun j hj => absurd hj (by omega)⟩
    clear mm h1 h2 h3
    rintro kk e w9 ⟨i, c, hki, h1, h2, h3, h4, mm, hcc⟩
    refine c_seq ?_
    refine c_sreg rfl ?_
    refine s1 (r_mvi h4) ?_
    refine s1 (r_lt rfl rfl) ?_
    refine wn ?_
    refine c_cond rfl (fun h => (c_skip (t_n ?_))) (fun h => (c_exit (t_x (t_x (b_x (t_n ?_))))))
    · have hi : i < 5 := by simp at h; omega
      clear h
      refine c_seq ?_
      refine c_block ?_
      refine c_region rfl ?_
      refine s1 (r_mvi h4) ?_
      refine s1 (r_mvi h4) ?_
      refine s1 (r_fa h1) ?_
      refine s1 (r_ixa rfl rfl (by omega) (by omega)) ?_
      refine s1 (r_ld rfl (mm.b 0 rfl) (nth_rvi x a cap i hi)) ?_
      refine s1 (r_band rfl rfl rfl) ?_
      refine s1 (r_fa h3) ?_
      refine s1 (r_ixa rfl rfl (by omega) (by omega)) ?_
      refine ss (o_st mm 2 rfl rfl rfl rfl (blt_rvi _ _ _ i hi) fun w7 mm => ?_)
      refine wn (b_n (t_n ?_))
      have mm := mm.castc (setN_rvi _ _ _ i hi _)
      refine c_region rfl ?_
      refine s1 (r_mvi h4) ?_
      refine s1 (r_add rfl rfl (wi (by omega) (by omega))) ?_
      refine s1 (r_asi rfl) ?_
      refine wn (t_n ?_)
      refine ⟨kk - 1, by omega, i + 1, _, by omega, h1, h2, h3, rfl, mm, ?_⟩
      intro j hj hj5
      show (c.set i (m20 (x.c.get i))).get j = _
      rw [Clk.get_set _ _ _ hi hj5]
      by_cases hij : i = j
      · rw [if_pos hij, hij]
      · rw [if_neg hij]; exact hcc j (by omega) hj5
    have hi : i = 5 := by simp at h; omega
    subst hi
    have hce : c = fitC x.c := Clk.ext' fun j hj => by rw [hcc j hj hj, fitC_get]
    subst hce
    refine c_sreg rfl ?_
    refine s1 (r_lda h3 (mm.b 2 rfl) rfl) ?_
    refine ss (o_sta mm 1 rfl h2 rfl rfl rfl (Nat.le_of_ble_eq_true rfl) fun w8 mm => ?_)
    refine wn ?_
    have hr : fitRec x = ⟨6, fitR x.r, 0, fitC x.c, []⟩ := by unfold fitRec; rw [hk]; exact if_pos rfl
    rw [hr]
    have mm := mm.nilrow (T := 25) (sz := 12)
    exact c_ret (retc rfl h2 (mm.b 1 rfl) rfl ⟨none, 0, rfl, mm.chg, mm.isNew 3 rfl⟩)
  have hn6 : k ≠ 6 := by simpa using h
  clear h
  refine c_seq ?_
  refine c_sreg rfl ?_
  refine s1 (r_fa h3) ?_
  refine s1 (r_ld rfl (mm.b 2 rfl) rfl) ?_
  refine s1 (r_eq rfl rfl) ?_
  refine wn ?_
  refine c_cond rfl (fun h => ?_) (fun h => (c_skip (t_n ?_)))
  · have h3' : k = 3 := by simpa using h
    clear h
    refine c_sreg rfl ?_
    refine s1 (r_lda h3 (mm.b 2 rfl) rfl) ?_
    refine ss (o_sta mm 1 rfl h2 rfl rfl rfl (Nat.le_of_ble_eq_true rfl) fun w9 mm => ?_)
    refine wn ?_
    have hr : fitRec x = ⟨3, fitR x.r, m20 x.upto, clk0, []⟩ := by unfold fitRec; rw [hk]; exact (if_neg hn6).trans (if_pos h3')
    rw [if_pos (.inl h3')] at hu
    subst hu
    subst h3'
    rw [hr]
    have mm := mm.nilrow (T := 25) (sz := 12)
    exact c_ret (retc rfl h2 (mm.b 1 rfl) rfl ⟨none, 0, rfl, mm.chg, mm.isNew 3 rfl⟩)
  have hn3 : k ≠ 3 := by simpa using h
  clear h
  have hu4 : u = if k = 4 then m20 x.upto else 0 := by
    rw [← hu]
    by_cases h4 : k = 4
    · rw [if_pos (.inr h4), if_pos h4]
    · rw [if_neg (by omega), if_neg h4]
  have hr : fitRec x = ⟨if k = 1 ∧ (fitEs x.es).length ≠ 1 then 2 else k, fitR x.r, u, clk0, fitEs x.es⟩ := by unfold fitRec; rw [hk, hu4]; exact (if_neg hn6).trans (if_neg hn3)
  rw [hr]
  refine c_seq ?_
  refine c_sreg rfl ?_
  refine s1 (r_asi rfl) ?_
  refine wn ?_
  refine c_block ?_
  refine c_loop (fun kk e w' => ∃ (i : Nat) (a' : Option Addr) (c' : Nat), kk + i = 30 ∧ i ≤ x.es.length ∧ e 1 = .pointer (some ⟨b2, 0, none⟩) ∧ e 2 = .pointer (some ⟨b3, 0, none⟩) ∧ e 3 = .pointer (some ⟨b4, 0, none⟩) ∧ e 5 = .int .i64 i ∧ Mem w No w' [bk b2 (recV x a cap) 43, bk b3 (recV rec0 none 0) 43, bk b4 (recV ⟨k, fitR x.r, u, clk0, fitEs (x.es.take i)⟩ a' c') 43, own 25 12 a' (fitEs (x.es.take i)).length c' (evsC (fitEs (x.es.take i)))]) 30 ?_ ?_
  · exact ⟨0, none, 0, rfl, Nat.zero_le _, h1, h2, h3, rfl, mm.nilrow⟩
  clear mm h1 h2 h3
  rintro kk e w9 ⟨i, a', c', hki, hil, h1, h2, h3, h5, mm⟩
  have hfl := fitEs_len2 x.es i hil (by omega)
  refine c_seq ?_
  refine c_sreg rfl ?_
  refine s1 (r_mvi h5) ?_
  refine s1 (r_fa h1) ?_
  refine s1 (r_ld rfl (mm.b 0 rfl) rfl) ?_
  refine s1 (r_len rfl) ?_
  refine s1 (r_lt rfl rfl) ?_
  refine s1 (r_mvb rfl) ?_
  refine sT rfl rfl (fun h => r_mvi h5) ?_
  refine sT rfl rfl (fun h => r_lt (sel_t h :) rfl) ?_
  refine s1 (r_and rfl rfl) ?_
  refine wn ?_
  refine c_cond rfl (fun h => (c_skip (t_n ?_))) (fun h => (c_exit (t_x (t_x (b_x (t_n ?_))))))
  · have hi : i < x.es.length ∧ i < 30 := by simp at h; omega
    clear h
    have hyin : EvIn (x.es[i]'hi.1) := hin.es _ (List.getElem_mem hi.1)
    refine c_seq ?_
    refine c_block ?_
    refine c_draw mixed [(0, true), (1, true), (2, true), (3, true), (4, true), (5, true), (6, true), (7, false), (8, false), (9, false), (10, true), (11, false)] [true, true, true, true, true, true, true, true, true, true, true, false] (Sof (mm.pk [0, 1, 2] (by decide))) (by kernel_rfl) rfl rfl (by kernel_rfl) (fun w10 hc => ?_)
    have mm := mm.frame hc
    refine p1 rfl (fun w m => r_fa h3) (mm.pk [0, 1, 2] (by decide)) ?_
    refine p1 rfl (fun w m => r_ld rfl (m.b 2 rfl) rfl) (mm.pk [0, 1, 2] (by decide)) ?_
    refine p1 rfl (fun w m => r_fa h1) (mm.pk [0, 1, 2] (by decide)) ?_
    refine p1 rfl (fun w m => r_ld rfl (m.b 0 rfl) rfl) (mm.pk [0, 1, 2] (by decide)) ?_
    refine p1 rfl (fun w m => r_mvi h5) (mm.pk [0, 1, 2] (by decide)) ?_
    refine p1 rfl (fun w m => r_ix rfl rfl (by omega) (by omega) (evs_some H hi.1)) (mm.pk [0, 1, 2] (by decide)) ?_
    refine p1 rfl (fun w m => r_ldce rfl (m.ro H) (seg_evs x.es i hi.1) (evs_le x.es i hi.1) (by decide)) (mm.pk [0, 1, 2] (by decide)) ?_
    refine po rfl (o_c1 rfl (c_fit6 _ hyin _) ?_)
    rintro _ w11 ⟨rfl, hc⟩
    have mm := mm.frame hc
    refine ⟨fun _ => (mm.sub [0, 1, 2] _ (by decide) rfl), ?_⟩
    refine po rfl (o_bg mm (bg rfl bN) rfl rfl (by decide) (by decide) (by decide) fun a12 c12 w12 mm => ⟨fun _ => (mm.sub [0, 1, 2] _ (by decide) rfl), ?_⟩)
    refine po rfl (o_ap mm 3 rfl rfl rfl (src_own mm 4 rfl rfl) (by omega) (by unfold maxLen; omega) fun a13 c13 w13 mm => ⟨fun _ => (mm.sub [0, 1, 2] _ (by decide) rfl), ?_⟩)
    refine p1 rfl (fun w m => r_fa h3) (mm.pk [0, 1, 2] (by decide)) ?_
    refine ps rfl (o_st mm 2 rfl rfl rfl rfl rfl fun w14 mm => ⟨fun h => absurd rfl h, ?_⟩)
    refine pn (b_n (t_n ?_))
    have mm := mm.pk [0, 1, 2, 3] (by decide)
    have hsn := fitEs_snoc x.es i hi.1 hi.2
    have hle : (fitEs (x.es.take (i + 1))).length = (fitEs (x.es.take i)).length + 1 := by rw [hsn, List.length_append]; rfl
    have mm := mm.castd (cs' := recV ⟨k, fitR x.r, u, clk0, fitEs (x.es.take (i + 1))⟩ _ _) (n' := (fitEs (x.es.take (i + 1))).length) (ds' := evsC (fitEs (x.es.take (i + 1)))) (by simp only [recV, hle]; rfl) hle.symm (by rw [hsn, evsC_append]; rfl)
    refine c_region rfl ?_
    refine s1 (r_mvi h5) ?_
    refine s1 (r_add rfl rfl (wi (by omega) (by omega))) ?_
    refine s1 (r_asi rfl) ?_
    refine wn (t_n ?_)
    exact ⟨kk - 1, by omega, i + 1, _, _, by omega, by omega, h1, h2, h3, rfl, mm⟩
  have hi : fitEs (x.es.take i) = fitEs x.es := by
    have h9 : i = x.es.length ∨ i = 30 := by simp at h; omega
    rcases h9 with h9 | h9
    · rw [h9, List.take_length]
    · rw [h9, fitEs_all]
  clear h
  have mm : Mem w No w9 [bk b2 (recV x a cap) 43, bk b3 (recV rec0 none 0) 43, bk b4 (recV ⟨k, fitR x.r, u, clk0, fitEs x.es⟩ a' c') 43, own 25 12 a' (fitEs x.es).length c' (evsC (fitEs x.es))] := by rw [← hi]; exact mm
  refine c_seq ?_
  refine c_sreg rfl ?_
  refine s1 (r_fa h3) ?_
  refine s1 (r_ld rfl (mm.b 2 rfl) rfl) ?_
  refine s1 (r_eq rfl rfl) ?_
  refine s1 (r_mvb rfl) ?_
  refine sT rfl rfl (fun h => r_fa h3) ?_
  refine sT rfl rfl (fun h => r_ld (sel_t h :) (mm.b 2 rfl) rfl) ?_
  refine sT rfl rfl (fun h => r_len (sel_t h :)) ?_
  refine sT rfl rfl (fun h => r_ne (sel_t h :) rfl) ?_
  refine s1 (r_and rfl rfl) ?_
  refine wn ?_
  generalize hk2 : (if k = 1 ∧ (fitEs x.es).length ≠ 1 then (2 : Int) else k) = k2
  refine c_mid0 (fun e w' => e 1 = .pointer (some ⟨b2, 0, none⟩) ∧ e 2 = .pointer (some ⟨b3, 0, none⟩) ∧ e 3 = .pointer (some ⟨b4, 0, none⟩) ∧ Mem w No w' [bk b2 (recV x a cap) 43, bk b3 (recV rec0 none 0) 43, bk b4 (recV ⟨k2, fitR x.r, u, clk0, fitEs x.es⟩ a' c') 43, own 25 12 a' (fitEs x.es).length c' (evsC (fitEs x.es))]) ?_ ?_
  · refine c_cond rfl (fun h => ?_) (fun h => (c_skip (t_n ?_)))
    · have h9 : k = 1 ∧ (fitEs x.es).length ≠ 1 := by simp at h; omega
      rw [if_pos h9] at hk2
      subst hk2
      refine c_region rfl ?_
      refine s1 (r_fa h3) ?_
      refine ss (o_st mm 2 rfl rfl rfl rfl rfl fun w15 mm => ?_)
      refine wn (t_n ?_)
      exact ⟨h1, h2, h3, mm⟩
    · have h9 : ¬ (k = 1 ∧ (fitEs x.es).length ≠ 1) := by simp at h; omega
      rw [if_neg h9] at hk2
      subst hk2
      exact ⟨h1, h2, h3, mm⟩
  clear mm h1 h2 h3
  rintro e w9 ⟨h1, h2, h3, mm⟩
  refine c_sreg rfl ?_
  refine s1 (r_lda h3 (mm.b 2 rfl) rfl) ?_
  refine ss (o_sta mm 1 rfl h2 rfl rfl rfl (Nat.le_of_ble_eq_true rfl) fun w16 mm => ?_)
  refine wn ?_
  exact c_ret (retc rfl h2 (mm.b 1 rfl) rfl ⟨_, _, rfl, mm.chg, mm.isNew 3 rfl⟩)

theorem putR_shown : recPut ⟨3, 1, 2, clk0, []⟩ = [7] ++ sealL [3, 1, 2] := by
  have h2 : vput 2 = [2] := by rw [vput]; rfl
  have h7 : vput 7 = [7] := by rw [vput]; rfl
  have hb : bodyR ⟨3, 1, 2, clk0, []⟩ = [3, 1, 2] := by
    show [UInt8.ofNat 3, UInt8.ofNat 1] ++ vput 2 ++ [] ++ [] = _
    rw [h2]; rfl
  show putR ⟨3, 1, 2, clk0, []⟩ = _
  unfold putR
  rw [hb, sealL_length]
  show vput 7 ++ _ = _
  rw [h7]
theorem c_shown18 (w : World) : Cl Try.prog 26 #[] w (fun v w' => v = .bool true ∧ Chg No w w') := by
  refine f_enter (args := []) Try.func26 rfl rfl ?_
  have mm := Mem.nil No w
  refine c_sreg rfl ?_
  refine s1 (r_asb rfl) ?_
  refine wn ?_
  have hz : recMay ⟨3, 1, 2, clk0, []⟩ = true := by decide
  refine c_sreg rfl ?_
  refine s1 (r_bd (bi rfl (bi rfl (bi rfl bN))) rfl) ?_
  refine so (o_c1 rfl (c_rPut ⟨3, 1, 2, clk0, []⟩ (a := none) (cap := 0) w (Cells.nil _ _) clk0_w) ?_)
  rintro _ w2 ⟨a2, c2, rfl, hc, hn⟩
  have mm := mm.new hc hn
  refine s1 (r_mvu rfl) ?_
  refine s1 (r_exts rfl rfl) ?_
  refine s1 (r_exti rfl rfl) ?_
  refine s1 (r_ass rfl) ?_
  refine s1 (r_asi rfl) ?_
  refine wn ?_
  refine c_sdraw mixed [(0, true), (1, true), (2, false), (3, false), (4, false), (5, true), (6, true), (7, true), (8, true), (9, true), (10, true), (11, true)] [true, true, true, true, true, true, true, true, true, true, true, true] (Sof (mm.pk [0] (by decide))) (by kernel_rfl) rfl rfl (by kernel_rfl) (fun w3 hc => ?_)
  have mm := mm.frame hc
  refine p1 rfl (fun w m => r_mvs rfl) (mm.pk [0] (by decide)) ?_
  refine p1 rfl (fun w m => r_b2s rfl (m.c 0 rfl) rfl) (mm.pk [0] (by decide)) ?_
  refine po rfl (o_bi3 mm rfl rfl rfl fun a4 c4 w4 mm => ⟨fun _ => (mm.sub [0] _ (by decide) rfl), ?_⟩)
  refine po rfl (o_c1 rfl (c_seal [3, 1, 2] (by decide) _ _ ⟨_, _, rfl, own_le (mm.o 1 rfl), mm.c 1 rfl⟩) ?_)
  rintro _ w5 ⟨a5, c5, rfl, hc, hn⟩
  have mm := mm.new hc hn
  refine ⟨fun _ => (mm.sub [0] _ (by decide) rfl), ?_⟩
  refine po rfl (o_v (r_b2s rfl (mm.c  2 rfl) rfl) ⟨fun _ => (mm.sub [0] _ (by decide) rfl), ?_⟩)
  refine p1 rfl (fun w m => r_cat rfl rfl (by rw [sealL_length]; decide)) (mm.pk [0] (by decide)) ?_
  refine p1 rfl (fun w m => r_seq rfl rfl) (mm.pk [0] (by decide)) ?_
  refine p1 rfl (fun w m => r_mvb rfl) (mm.pk [0] (by decide)) ?_
  refine pT rfl rfl rfl (fun h w m => r_mvi rfl) (mm.pk [0] (by decide)) ?_
  refine pT rfl rfl rfl (fun h w m => r_eq (sel_t h :) rfl) (mm.pk [0] (by decide)) ?_
  refine p1 rfl (fun w m => r_and rfl rfl) (mm.pk [0] (by decide)) ?_
  refine p1 rfl (fun w m => r_asb rfl) (mm.pk [0] (by decide)) ?_
  refine pn ?_
  refine c_ret (ret1 rfl rfl ⟨congrArg Value.bool (?_ : _ = true), mm.chg⟩)
  rw [putR_shown, hz]
  simp
end Go.Proofs.Ytgdbbaggkoillaa

