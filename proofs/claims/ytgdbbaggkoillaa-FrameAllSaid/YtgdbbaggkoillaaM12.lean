/- kithref18.Fit, kithlaw18.shown: walks. -/
import Derived.Test.YtgdbbaggkoillaaM11
import Derived.Test.YtgdbbaggkoillaaM8
import Derived.Test.YtgdbbaggkoillaaM7
import Derived.Test.YtgdbbaggkoillaaM10
import Derived.Test.YtgdbbaggkoillaaM5
import Derived.Test.YtgdbbaggkoillaaM6
namespace Go.Proofs.Ytgdbbaggkoillaa
open K
set_option maxRecDepth 100000
set_option maxHeartbeats 4000000

structure RecIn (x : Rec) : Prop where
  kind : i64 x.kind
  r : i64 x.r
  upto : i64 x.upto
  c : ∀ i, i < 5 → i64 (x.c.get i)
  len : x.es.length < 2 ^ 47
  es : ∀ y ∈ x.es, EvIn y
theorem nth_rvi (x : Rec) (a : Option Addr) (cap : Nat) (i : Nat) (h : i < 5) : nth (recV x a cap) (0 + 3 + (i : Int).toNat * 1) = some (.int .i64 (x.c.get i)) := by
  match i, h with
  | 0, _ => rfl | 1, _ => rfl | 2, _ => rfl | 3, _ => rfl | 4, _ => rfl
theorem blt_rvi (x : Rec) (a : Option Addr) (cap : Nat) (i : Nat) (h : i < 5) : Nat.blt (0 + 3 + (i : Int).toNat * 1) (recV x a cap).length = true := by
  match i, h with
  | 0, _ => rfl | 1, _ => rfl | 2, _ => rfl | 3, _ => rfl | 4, _ => rfl
theorem setN_rvi (x : Rec) (a : Option Addr) (cap : Nat) (i : Nat) (h : i < 5) (v : Int) : setN (recV x a cap) (0 + 3 + (i : Int).toNat * 1) (.int .i64 v) = recV { x with c := x.c.set i v } a cap := by
  match i, h with
  | 0, _ => rfl | 1, _ => rfl | 2, _ => rfl | 3, _ => rfl | 4, _ => rfl
def rec0 : Rec := ⟨0, 0, 0, clk0, []⟩
theorem K.Mem.castc {w0 w : World} {F0 : Nat → Prop} {I J : It} {b : Nat} {cs cs' : List Value} {T : TypeId} (h : Mem w0 F0 w [I, J, bk b cs T]) (hc : cs = cs') : Mem w0 F0 w [I, J, bk b cs' T] := by subst hc; exact h
theorem K.Mem.castd {w0 w : World} {F0 : Nat → Prop} {I J : It} {b : Nat} {cs cs' ds ds' : List Value} {T T' : TypeId} {sz n n' c : Nat} {a : Option Addr} (h : Mem w0 F0 w [I, J, bk b cs T, own T' sz a n c ds]) (hc : cs = cs') (hn : n = n') (hd : ds = ds') : Mem w0 F0 w [I, J, bk b cs' T, own T' sz a n' c ds'] := by subst hc; subst hn; subst hd; exact h
theorem clkW_of {c : Clk} (h : ∀ i, i < 5 → i64 (c.get i)) : ClkW c := ⟨h 0 (by decide), h 1 (by decide), h 2 (by decide), h 3 (by decide), h 4 (by decide)⟩

theorem fitEs_snoc (l : List Ev) (i : Nat) (h : i < l.length) (hi : i < 30) : fitEs (l.take (i + 1)) = fitEs (l.take i) ++ [fitEv l[i]] := by
  unfold fitEs
  rw [List.take_take, List.take_take, Nat.min_eq_right (by omega), Nat.min_eq_right (by omega), List.take_succ_eq_append_getElem h, List.map_append]; rfl
theorem fitEs_all (l : List Ev) : fitEs (l.take 30) = fitEs l := by
  unfold fitEs
  rw [List.take_take, Nat.min_self]
theorem fitEs_len2 (l : List Ev) (i : Nat) (h : i ≤ l.length) (hi : i ≤ 30) : (fitEs (l.take i)).length = i := by
  unfold fitEs
  rw [List.length_map, List.length_take, List.length_take]; omega
def NewR (w w' : World) (a : Option Addr) (cap : Nat) (l : List Ev) : Prop := New w w' (own 25 12 a l.length cap (evsC l))
theorem c_fit18 (x : Rec) {a : Option Addr} {cap : Nat} (w : World) (H : Cells w a (evsC x.es)) (hin : RecIn x) : Cl Try.prog 27 #[.agg (recV x a cap).toArray] w
    (fun v w' => ∃ a' c', v = .agg (recV (fitRec x) a' c').toArray ∧ Chg No w w' ∧ NewR w w' a' c' (fitRec x).es) := by
  have hq := tmod_in x.kind 6 (by decide)
  have hq5 := tmod_in x.r 5 (by decide)
  have hk6 := fit6R_in x.kind
  have hlen := hin.len
  refine f_enter (args := [_]) Try.func27 rfl rfl ?_
  have mm := Mem.nil No w
  refine c_sreg rfl ?_
  refine so (o_bxa mm rfl fun b2 w2 mm => ?_)
  refine so (o_al mm fun b3 w3 mm => ?_)
  refine wn ?_
  refine c_sreg rfl ?_
  refine s1 (r_fa rfl) ?_
  refine s1 (r_ld rfl (mm.b 0 rfl) rfl) ?_
  refine s1 (r_rem rfl rfl (by decide) rfl) ?_
  refine s1 (r_add rfl rfl (wi (by omega) (by omega))) ?_
  refine s1 (r_rem rfl rfl (by decide) rfl) ?_
  refine s1 (r_add rfl rfl (show IntKind.i64.wrap (1 + ((x.kind.tmod 6) + 6).tmod 6) = fit6R x.kind from wi (by unfold fit6R at hk6; omega) (by unfold fit6R at hk6; omega))) ?_
  refine s1 (r_fa rfl) ?_
  refine s1 (r_ld rfl (mm.b 0 rfl) rfl) ?_
  refine s1 (r_rem rfl rfl (by decide) rfl) ?_
  refine s1 (r_add rfl rfl (wi (by omega) (by omega))) ?_
  refine s1 (r_rem rfl rfl (by decide) (show _ = fitR x.r from rfl)) ?_
  refine s1 (r_bd (bi rfl (bi rfl bN)) rfl) ?_
  refine so (o_al mm fun b4 w4 mm => ?_)
  refine ss (o_sta mm 2 rfl rfl rfl rfl rfl (Nat.le_of_ble_eq_true rfl) fun w5 mm => ?_)
  refine wn ?_
  have mm : Mem w No _ [bk b2 (recV x a cap) 43, bk b3 (recV rec0 none 0) 43, bk b4 (recV ⟨fit6R x.kind, fitR x.r, 0, clk0, []⟩ none 0) 43] := mm
  generalize hk : fit6R x.kind = k at *
  generalize hu : (if k = 3 ∨ k = 4 then m20 x.upto else 0) = u
  refine c_seq ?_
  refine c_sreg rfl ?_
  refine s1 (r_fa rfl) ?_
  refine s1 (r_ld rfl (mm.b 2 rfl) rfl) ?_
  refine s1 (r_eq rfl rfl) ?_
  refine s1 (r_mvb rfl) ?_
  refine sF rfl rfl (fun h => r_fa rfl) ?_
  refine sF rfl rfl (fun h => r_ld (sel_t h :) (mm.b 2 rfl) rfl) ?_
  refine sF rfl rfl (fun h => r_eq (sel_t h :) rfl) ?_
  refine s1 (r_or rfl rfl) ?_
  refine wn ?_
  refine c_mid0 (fun e w' => e 1 = .pointer (some ⟨b2, 0, none⟩) ∧ e 2 = .pointer (some ⟨b3, 0, none⟩) ∧ e 3 = .pointer (some ⟨b4, 0, none⟩) ∧ Mem w No w' [bk b2 (recV x a cap) 43, bk b3 (recV rec0 none 0) 43, bk b4 (recV ⟨k, fitR x.r, u, clk0, []⟩ none 0) 43]) ?_ ?_
  · refine c_cond rfl (fun h => ?_) (fun h => (c_skip (t_n ?_)))
    · have h34 : k = 3 ∨ k = 4 := by simp at h; omega
      rw [if_pos h34] at hu
      subst hu
      refine c_region rfl ?_
      refine s1 (r_fa rfl) ?_
      refine s1 (r_ld rfl (mm.b 0 rfl) rfl) ?_
      refine s1 (r_band rfl rfl rfl) ?_
      refine s1 (r_fa rfl) ?_
      refine ss (o_st mm 2 rfl rfl rfl rfl rfl fun w6 mm => ?_)
      refine wn (t_n ?_)
      exact ⟨rfl, rfl, rfl, mm⟩
    · have h34 : ¬ (k = 3 ∨ k = 4) := by simp at h; omega
      rw [if_neg h34] at hu
      subst hu
      exact ⟨rfl, rfl, rfl, mm⟩
  clear mm
  rintro e w9 ⟨h1, h2, h3, mm⟩
  refine c_seq ?_
  refine c_sreg rfl ?_
  refine s1 (r_fa h3) ?_
  refine s1 (r_ld rfl (mm.b 2 rfl) rfl) ?_
  refine s1 (r_eq rfl rfl) ?_
  refine wn ?_
  refine c_cond rfl (fun h => ?_) (fun h => (c_skip (t_n ?_)))
  · have h6 : k = 6 := by simpa using h
    clear h
    have hu0 : u = 0 := by rw [← hu]; exact if_neg (by omega)
    subst hu0
    subst h6
    refine c_seq ?_
    refine c_sreg rfl ?_
    refine s1 (r_asi rfl) ?_
    refine wn ?_
    refine c_block ?_
    refine c_loop (fun kk e w' => ∃ (i : Nat) (c : Clk), kk + i = 5 ∧ e 1 = .pointer (some ⟨b2, 0, none⟩) ∧ e 2 = .pointer (some ⟨b3, 0, none⟩) ∧ e 3 = .pointer (some ⟨b4, 0, none⟩) ∧ e 4 = .int .i64 i ∧ Mem w No w' [bk b2 (recV x a cap) 43, bk b3 (recV rec0 none 0) 43, bk b4 (recV ⟨6, fitR x.r, 0, c, []⟩ none 0) 43] ∧ ∀ j, j < i → j < 5 → c.get j = m20 (x.c.get j)) 5 ?_ ?_
    · exact ⟨0, clk0, rfl, h1, h2, h3, rfl, mm, fun j hj => absurd hj (by omega)⟩
    clear mm h1 h2 h3
    rintro kk e w9 ⟨i, c, hki, h1, h2, h3, h4, mm, hcc⟩
    refine c_seq ?_
    refine c_sreg rfl ?_
    refine s1 (r_mvi h4) ?_
    refine s1 (r_lt rfl rfl) ?_
    refine wn ?_
    refine c_cond rfl (fun h => (c_skip (t_n ?_))) (fun h => (c_exit (t_x (t_x (b_x (t_n ?_))))))
    · have hi : i < 5 := by simp at h; omega
      clear h
      refine c_seq ?_
      refine c_block ?_
      refine c_region rfl ?_
      refine s1 (r_mvi h4) ?_
      refine s1 (r_mvi h4) ?_
      refine s1 (r_fa h1) ?_
      refine s1 (r_ixa rfl rfl (by omega) (by omega)) ?_
      refine s1 (r_ld rfl (mm.b 0 rfl) (nth_rvi x a cap i hi)) ?_
      refine s1 (r_band rfl rfl rfl) ?_
      refine s1 (r_fa h3) ?_
      refine s1 (r_ixa rfl rfl (by omega) (by omega)) ?_
      refine ss (o_st mm 2 rfl rfl rfl rfl (blt_rvi _ _ _ i hi) fun w7 mm => ?_)
      refine wn (b_n (t_n ?_))
      have mm := mm.castc (setN_rvi _ _ _ i hi _)
      refine c_region rfl ?_
      refine s1 (r_mvi h4) ?_
      refine s1 (r_add rfl rfl (wi (by omega) (by omega))) ?_
      refine s1 (r_asi rfl) ?_
      refine wn (t_n ?_)
      refine ⟨kk - 1, by omega, i + 1, _, by omega, h1, h2, h3, rfl, mm, ?_⟩
      intro j hj hj5
      show (c.set i (m20 (x.c.get i))).get j = _
      rw [Clk.get_set _ _ _ hi hj5]
      by_cases hij : i = j
      · rw [if_pos hij, hij]
      · rw [if_neg hij]; exact hcc j (by omega) hj5
    have hi : i = 5 := by simp at h; omega
    subst hi
    have hce : c = fitC x.c := Clk.ext' fun j hj => by rw [hcc j hj hj, fitC_get]
    subst hce
    refine c_sreg rfl ?_
    refine s1 (r_lda h3 (mm.b 2 rfl) rfl) ?_
    refine ss (o_sta mm 1 rfl h2 rfl rfl rfl (Nat.le_of_ble_eq_true rfl) fun w8 mm => ?_)
    refine wn ?_
    have hr : fitRec x = ⟨6, fitR x.r, 0, fitC x.c, []⟩ := by unfold fitRec; rw [hk]; exact if_pos rfl
    rw [hr]
    have mm := mm.nilrow (T := 25) (sz := 12)
    exact c_ret (retc rfl h2 (mm.b 1 rfl) rfl ⟨none, 0, rfl, mm.chg, mm.isNew 3 rfl⟩)
  have hn6 : k ≠ 6 := by simpa using h
  clear h
  refine c_seq ?_
  refine c_sreg rfl ?_
  refine s1 (r_fa h3) ?_
  refine s1 (r_ld rfl (mm.b 2 rfl) rfl) ?_
  refine s1 (r_eq rfl rfl) ?_
  refine wn ?_
  refine c_cond rfl (fun h => ?_) (fun h => (c_skip (t_n ?_)))
  · have h3' : k = 3 := by simpa using h
    clear h
    refine c_sreg rfl ?_
    refine s1 (r_lda h3 (mm.b 2 rfl) rfl) ?_
    refine ss (o_sta mm 1 rfl h2 rfl rfl rfl (Nat.le_of_ble_eq_true rfl) fun w9 mm => ?_)
    refine wn ?_
    have hr : fitRec x = ⟨3, fitR x.r, m20 x.upto, clk0, []⟩ := by unfold fitRec; rw [hk]; exact (if_neg hn6).trans (if_pos h3')
    rw [if_pos (.inl h3')] at hu
    subst hu
    subst h3'
    rw [hr]
    have mm := mm.nilrow (T := 25) (sz := 12)
    exact c_ret (retc rfl h2 (mm.b 1 rfl) rfl ⟨none, 0, rfl, mm.chg, mm.isNew 3 rfl⟩)
  have hn3 : k ≠ 3 := by simpa using h
  clear h
  have hu4 : u = if k = 4 then m20 x.upto else 0 := by
    rw [← hu]
    by_cases h4 : k = 4
    · rw [if_pos (.inr h4), if_pos h4]
    · rw [if_neg (by omega), if_neg h4]
  have hr : fitRec x = ⟨if k = 1 ∧ (fitEs x.es).length ≠ 1 then 2 else k, fitR x.r, u, clk0, fitEs x.es⟩ := by unfold fitRec; rw [hk, hu4]; exact (if_neg hn6).trans (if_neg hn3)
  rw [hr]
  refine c_seq ?_
  refine c_sreg rfl ?_
  refine s1 (r_asi rfl) ?_
  refine wn ?_
  refine c_block ?_
  refine c_loop (fun kk e w' => ∃ (i : Nat) (a' : Option Addr) (c' : Nat), kk + i = 30 ∧ i ≤ x.es.length ∧ e 1 = .pointer (some ⟨b2, 0, none⟩) ∧ e 2 = .pointer (some ⟨b3, 0, none⟩) ∧ e 3 = .pointer (some ⟨b4, 0, none⟩) ∧ e 5 = .int .i64 i ∧ Mem w No w' [bk b2 (recV x a cap) 43, bk b3 (recV rec0 none 0) 43, bk b4 (recV ⟨k, fitR x.r, u, clk0, fitEs (x.es.take i)⟩ a' c') 43, own 25 12 a' (fitEs (x.es.take i)).length c' (evsC (fitEs (x.es.take i)))]) 30 ?_ ?_
  · exact ⟨0, none, 0, rfl, Nat.zero_le _, h1, h2, h3, rfl, mm.nilrow⟩
  clear mm h1 h2 h3
  rintro kk e w9 ⟨i, a', c', hki, hil, h1, h2, h3, h5, mm⟩
  have hfl := fitEs_len2 x.es i hil (by omega)
  refine c_seq ?_
  refine c_sreg rfl ?_
  refine s1 (r_mvi h5) ?_
  refine s1 (r_fa h1) ?_
  refine s1 (r_ld rfl (mm.b 0 rfl) rfl) ?_
  refine s1 (r_len rfl) ?_
  refine s1 (r_lt rfl rfl) ?_
  refine s1 (r_mvb rfl) ?_
  refine sT rfl rfl (fun h => r_mvi h5) ?_
  refine sT rfl rfl (fun h => r_lt (sel_t h :) rfl) ?_
  refine s1 (r_and rfl rfl) ?_
  refine wn ?_
  refine c_cond rfl (fun h => (c_skip (t_n ?_))) (fun h => (c_exit (t_x (t_x (b_x (t_n ?_))))))
  · have hi : i < x.es.length ∧ i < 30 := by simp at h; omega
    clear h
    have hyin : EvIn (x.es[i]'hi.1) := hin.es _ (List.getElem_mem hi.1)
    refine c_seq ?_
    refine c_block ?_
    refine c_draw mixed [(0, true), (1, true), (2, true), (3, true), (4, true), (5, true), (6, true), (7, false), (8, false), (9, false), (10, true), (11, false)] [true, true, true, true, true, true, true, true, true, true, true, false] (Sof (mm.pk [0, 1, 2] (by decide))) (by kernel_rfl) rfl rfl (by kernel_rfl) (fun w10 hc => ?_)
    have mm := mm.frame hc
    refine p1 rfl (fun w m => r_fa h3) (mm.pk [0, 1, 2] (by decide)) ?_
    refine p1 rfl (fun w m => r_ld rfl (m.b 2 rfl) rfl) (mm.pk [0, 1, 2] (by decide)) ?_
    refine p1 rfl (fun w m => r_fa h1) (mm.pk [0, 1, 2] (by decide)) ?_
    refine p1 rfl (fun w m => r_ld rfl (m.b 0 rfl) rfl) (mm.pk [0, 1, 2] (by decide)) ?_
    refine p1 rfl (fun w m => r_mvi h5) (mm.pk [0, 1, 2] (by decide)) ?_
    refine p1 rfl (fun w m => r_ix rfl rfl (by omega) (by omega) (evs_some H hi.1)) (mm.pk [0, 1, 2] (by decide)) ?_
    refine p1 rfl (fun w m => r_ldce rfl (m.ro H) (seg_evs x.es i hi.1) (evs_le x.es i hi.1) (by decide)) (mm.pk [0, 1, 2] (by decide)) ?_
    refine po rfl (o_c1 rfl (c_fit6 _ hyin _) ?_)
    rintro _ w11 ⟨rfl, hc⟩
    have mm := mm.frame hc
    refine ⟨fun _ => (mm.sub [0, 1, 2] _ (by decide) rfl), ?_⟩
    refine po rfl (o_bg mm (bg rfl bN) rfl rfl (by decide) (by decide) (by decide) fun a12 c12 w12 mm => ⟨fun _ => (mm.sub [0, 1, 2] _ (by decide) rfl), ?_⟩)
    refine po rfl (o_ap mm 3 rfl rfl rfl (src_own mm 4 rfl rfl) (by omega) (by unfold maxLen; omega) fun a13 c13 w13 mm => ⟨fun _ => (mm.sub [0, 1, 2] _ (by decide) rfl), ?_⟩)
    refine p1 rfl (fun w m => r_fa h3) (mm.pk [0, 1, 2] (by decide)) ?_
    refine ps rfl (o_st mm 2 rfl rfl rfl rfl rfl fun w14 mm => ⟨fun h => absurd rfl h, ?_⟩)
    refine pn (b_n (t_n ?_))
    have mm := mm.pk [0, 1, 2, 3] (by decide)
    have hsn := fitEs_snoc x.es i hi.1 hi.2
    have hle : (fitEs (x.es.take (i + 1))).length = (fitEs (x.es.take i)).length + 1 := by rw [hsn, List.length_append]; rfl
    have mm := mm.castd (cs' := recV ⟨k, fitR x.r, u, clk0, fitEs (x.es.take (i + 1))⟩ _ _) (n' := (fitEs (x.es.take (i + 1))).length) (ds' := evsC (fitEs (x.es.take (i + 1)))) (by simp only [recV, hle]; rfl) hle.symm (by rw [hsn, evsC_append]; rfl)
    refine c_region rfl ?_
    refine s1 (r_mvi h5) ?_
    refine s1 (r_add rfl rfl (wi (by omega) (by omega))) ?_
    refine s1 (r_asi rfl) ?_
    refine wn (t_n ?_)
    exact ⟨kk - 1, by omega, i + 1, _, _, by omega, by omega, h1, h2, h3, rfl, mm⟩
  have hi : fitEs (x.es.take i) = fitEs x.es := by
    have h9 : i = x.es.length ∨ i = 30 := by simp at h; omega
    rcases h9 with h9 | h9
    · rw [h9, List.take_length]
    · rw [h9, fitEs_all]
  clear h
  have mm : Mem w No w9 [bk b2 (recV x a cap) 43, bk b3 (recV rec0 none 0) 43, bk b4 (recV ⟨k, fitR x.r, u, clk0, fitEs x.es⟩ a' c') 43, own 25 12 a' (fitEs x.es).length c' (evsC (fitEs x.es))] := by rw [← hi]; exact mm
  refine c_seq ?_
  refine c_sreg rfl ?_
  refine s1 (r_fa h3) ?_
  refine s1 (r_ld rfl (mm.b 2 rfl) rfl) ?_
  refine s1 (r_eq rfl rfl) ?_
  refine s1 (r_mvb rfl) ?_
  refine sT rfl rfl (fun h => r_fa h3) ?_
  refine sT rfl rfl (fun h => r_ld (sel_t h :) (mm.b 2 rfl) rfl) ?_
  refine sT rfl rfl (fun h => r_len (sel_t h :)) ?_
  refine sT rfl rfl (fun h => r_ne (sel_t h :) rfl) ?_
  refine s1 (r_and rfl rfl) ?_
  refine wn ?_
  generalize hk2 : (if k = 1 ∧ (fitEs x.es).length ≠ 1 then (2 : Int) else k) = k2
  refine c_mid0 (fun e w' => e 1 = .pointer (some ⟨b2, 0, none⟩) ∧ e 2 = .pointer (some ⟨b3, 0, none⟩) ∧ e 3 = .pointer (some ⟨b4, 0, none⟩) ∧ Mem w No w' [bk b2 (recV x a cap) 43, bk b3 (recV rec0 none 0) 43, bk b4 (recV ⟨k2, fitR x.r, u, clk0, fitEs x.es⟩ a' c') 43, own 25 12 a' (fitEs x.es).length c' (evsC (fitEs x.es))]) ?_ ?_
  · refine c_cond rfl (fun h => ?_) (fun h => (c_skip (t_n ?_)))
    · have h9 : k = 1 ∧ (fitEs x.es).length ≠ 1 := by simp at h; omega
      rw [if_pos h9] at hk2
      subst hk2
      refine c_region rfl ?_
      refine s1 (r_fa h3) ?_
      refine ss (o_st mm 2 rfl rfl rfl rfl rfl fun w15 mm => ?_)
      refine wn (t_n ?_)
      exact ⟨h1, h2, h3, mm⟩
    · have h9 : ¬ (k = 1 ∧ (fitEs x.es).length ≠ 1) := by simp at h; omega
      rw [if_neg h9] at hk2
      subst hk2
      exact ⟨h1, h2, h3, mm⟩
  clear mm h1 h2 h3
  rintro e w9 ⟨h1, h2, h3, mm⟩
  refine c_sreg rfl ?_
  refine s1 (r_lda h3 (mm.b 2 rfl) rfl) ?_
  refine ss (o_sta mm 1 rfl h2 rfl rfl rfl (Nat.le_of_ble_eq_true rfl) fun w16 mm => ?_)
  refine wn ?_
  exact c_ret (retc rfl h2 (mm.b 1 rfl) rfl ⟨_, _, rfl, mm.chg, mm.isNew 3 rfl⟩)

theorem putR_shown : recPut ⟨3, 1, 2, clk0, []⟩ = [7] ++ sealL [3, 1, 2] := by
  have h2 : vput 2 = [2] := by rw [vput]; rfl
  have h7 : vput 7 = [7] := by rw [vput]; rfl
  have hb : bodyR ⟨3, 1, 2, clk0, []⟩ = [3, 1, 2] := by
    show [UInt8.ofNat 3, UInt8.ofNat 1] ++ vput 2 ++ [] ++ [] = _
    rw [h2]; rfl
  show putR ⟨3, 1, 2, clk0, []⟩ = _
  unfold putR
  rw [hb, sealL_length]
  show vput 7 ++ _ = _
  rw [h7]
theorem c_shown18 (w : World) : Cl Try.prog 26 #[] w (fun v w' => v = .bool true ∧ Chg No w w') := by
  refine f_enter (args := []) Try.func26 rfl rfl ?_
  have mm := Mem.nil No w
  refine c_sreg rfl ?_
  refine s1 (r_asb rfl) ?_
  refine wn ?_
  have hz : recMay ⟨3, 1, 2, clk0, []⟩ = true := by decide
  refine c_sreg rfl ?_
  refine s1 (r_bd (bi rfl (bi rfl (bi rfl bN))) rfl) ?_
  refine so (o_c1 rfl (c_rPut ⟨3, 1, 2, clk0, []⟩ (a := none) (cap := 0) w (Cells.nil _ _) clk0_w) ?_)
  rintro _ w2 ⟨a2, c2, rfl, hc, hn⟩
  have mm := mm.new hc hn
  refine s1 (r_mvu rfl) ?_
  refine s1 (r_exts rfl rfl) ?_
  refine s1 (r_exti rfl rfl) ?_
  refine s1 (r_ass rfl) ?_
  refine s1 (r_asi rfl) ?_
  refine wn ?_
  refine c_sdraw mixed [(0, true), (1, true), (2, false), (3, false), (4, false), (5, true), (6, true), (7, true), (8, true), (9, true), (10, true), (11, true)] [true, true, true, true, true, true, true, true, true, true, true, true] (Sof (mm.pk [0] (by decide))) (by kernel_rfl) rfl rfl (by kernel_rfl) (fun w3 hc => ?_)
  have mm := mm.frame hc
  refine p1 rfl (fun w m => r_mvs rfl) (mm.pk [0] (by decide)) ?_
  refine p1 rfl (fun w m => r_b2s rfl (m.c 0 rfl) rfl) (mm.pk [0] (by decide)) ?_
  refine po rfl (o_bi3 mm rfl rfl rfl fun a4 c4 w4 mm => ⟨fun _ => (mm.sub [0] _ (by decide) rfl), ?_⟩)
  refine po rfl (o_c1 rfl (c_seal [3, 1, 2] (by decide) _ _ ⟨_, _, rfl, own_le (mm.o 1 rfl), mm.c 1 rfl⟩) ?_)
  rintro _ w5 ⟨a5, c5, rfl, hc, hn⟩
  have mm := mm.new hc hn
  refine ⟨fun _ => (mm.sub [0] _ (by decide) rfl), ?_⟩
  refine po rfl (o_v (r_b2s rfl (mm.c  2 rfl) rfl) ⟨fun _ => (mm.sub [0] _ (by decide) rfl), ?_⟩)
  refine p1 rfl (fun w m => r_cat rfl rfl (by rw [sealL_length]; decide)) (mm.pk [0] (by decide)) ?_
  refine p1 rfl (fun w m => r_seq rfl rfl) (mm.pk [0] (by decide)) ?_
  refine p1 rfl (fun w m => r_mvb rfl) (mm.pk [0] (by decide)) ?_
  refine pT rfl rfl rfl (fun h w m => r_mvi rfl) (mm.pk [0] (by decide)) ?_
  refine pT rfl rfl rfl (fun h w m => r_eq (sel_t h :) rfl) (mm.pk [0] (by decide)) ?_
  refine p1 rfl (fun w m => r_and rfl rfl) (mm.pk [0] (by decide)) ?_
  refine p1 rfl (fun w m => r_asb rfl) (mm.pk [0] (by decide)) ?_
  refine pn ?_
  refine c_ret (ret1 rfl rfl ⟨congrArg Value.bool (?_ : _ = true), mm.chg⟩)
  rw [putR_shown, hz]
  simp
end Go.Proofs.Ytgdbbaggkoillaa
/- Frames read: plain. -/
namespace Go.Proofs.Ytgdbbaggkoillaa
open K
def numT (b : List UInt8) : Nat × List UInt8 × Bool := (min (vtake b).1 1048577, b.drop (vtake b).2.1, decide ((vtake b).2.2 = 0))
def clkTT (b : List UInt8) : Nat → Clk × List UInt8 × Bool
  | 0 => (clk0, b, true)
  | i + 1 => ((clkTT b i).1.set i (numT (clkTT b i).2.1).1, (numT (clkTT b i).2.1).2.1, (clkTT b i).2.2 && (numT (clkTT b i).2.1).2.2)
def evT1 (q : List Ev × List UInt8) : Option (List Ev × List UInt8) := if (takeE q.2).2.2 = 0 then some (q.1 ++ [(takeE q.2).1], q.2.drop (takeE q.2).2.1.toNat) else none
def evT (b : List UInt8) : Nat → Option (List Ev × List UInt8)
  | 0 => some ([], b)
  | i + 1 => (evT b i).bind evT1
def bodyS (b : List UInt8) : Option (Rec × List UInt8 × Bool) :=
  if b.length < 3 then none else
  let k : Int := (b.getD 0 0).toNat
  let r : Int := (b.getD 1 0).toNat
  let s := b.drop 2
  if fHas k = 2 then some (⟨k, r, (numT s).1, clk0, []⟩, (numT s).2.1, (numT s).2.2)
  else if fHas k = 3 then some (⟨k, r, 0, (clkTT s 5).1, []⟩, (clkTT s 5).2.1, (clkTT s 5).2.2)
  else if fHas k = 1 then (evT (s.drop 1) (s.getD 0 0).toNat).map fun q => (⟨k, r, 0, clk0, q.1⟩, q.2, true)
  else some (⟨k, r, 0, clk0, []⟩, s, true)
def bodyQ (q : Rec × List UInt8 × Bool) : Option Rec := if q.2.2 && decide (q.2.1.length = 0) && frMay q.1 then some q.1 else none
def bodyT (b : List UInt8) : Option Rec := (bodyS b).bind bodyQ
def takeF (b : List UInt8) : Rec × Int :=
  if 2048 < b.length then (rec0, 5) else
  match openL b with
  | none => (rec0, 4)
  | some t =>
    if (vtake t).2.2 ≠ 0 ∨ (vtake t).1 ≠ t.length - (vtake t).2.1 then (rec0, 3) else
    match bodyT (t.drop (vtake t).2.1) with
    | none => (rec0, 3)
    | some f => (f, 0)

theorem vtake_split {b : List UInt8} (h : (vtake b).2.2 = 0) : b = vput (vtake b).1 ++ b.drop (vtake b).2.1 ∧ (vtake b).2.1 = (vput (vtake b).1).length ∧ (vtake b).2.1 ≤ b.length := by
  have e : vtake b = ((vtake b).1, (vtake b).2.1, 0) := by rw [← h]
  obtain ⟨h1, h2, h3, _⟩ := vtake_ok e
  refine ⟨?_, h2, h3⟩
  rw [← h1, List.take_append_drop]
theorem numT_ok {b : List UInt8} (h : (numT b).2.2 = true) (hn : (numT b).1 ≤ 1048576) : b = vput (numT b).1 ++ (numT b).2.1 := by
  have h0 : (vtake b).2.2 = 0 := by simpa [numT] using h
  have hm : (numT b).1 = (vtake b).1 := by unfold numT at *; simp only at *; omega
  rw [hm]
  exact (vtake_split h0).1
theorem numT_put (n : Nat) (hn : n ≤ 1048576) (s : List UInt8) : numT (vput n ++ s) = (n, s, true) := by
  unfold numT
  rw [vtake_put n (Nat.le_trans (vput_len 3 n (by omega)) (by decide)) s]
  simp only [List.drop_left]
  rw [Nat.min_eq_left (by omega)]; rfl
theorem clkTT_ok {b : List UInt8} (C : Clk) (hC : ∀ j, j < 5 → C.get j ≤ 1048576) : ∀ i, i ≤ 5 → (clkTT b i).2.2 = true → (∀ j, j < i → C.get j = (clkTT b i).1.get j) → b = clkB C i ++ (clkTT b i).2.1
  | 0, _, _, _ => rfl
  | i + 1, hi, h, hc => by
    rw [clkTT] at h hc ⊢
    simp only [Bool.and_eq_true] at h hc ⊢
    have hci : C.get i = (numT (clkTT b i).2.1).1 := by rw [hc i (by omega), Clk.get_set _ _ _ (by omega) (by omega), if_pos rfl]
    have h1 := clkTT_ok C hC i (by omega) h.1 fun j hj => by
      rw [hc j (by omega), Clk.get_set _ _ _ (by omega) (by omega), if_neg (by omega)]
    have h2 := numT_ok h.2 (by have := hC i (by omega); omega)
    conv => lhs; rw [h1]
    rw [clkB_succ, hci, List.append_assoc]
    congr 1
theorem clkTT_put (C : Clk) (hC : ∀ j, j < 5 → 0 ≤ C.get j ∧ C.get j ≤ 1048576) : ∀ i, i ≤ 5 → ∀ s, ∃ c, clkTT (clkB C i ++ s) i = (c, s, true) ∧ ∀ j, j < i → c.get j = C.get j
  | 0, _, s => ⟨clk0, rfl, fun j hj => absurd hj (by omega)⟩
  | i + 1, hi, s => by
    obtain ⟨c, h1, h2⟩ := clkTT_put C hC i (by omega) (vput (C.get i).toNat ++ s)
    have hci := hC i (by omega)
    refine ⟨c.set i (C.get i), ?_, fun j hj => ?_⟩
    · rw [clkTT, clkB_succ, List.append_assoc, h1]
      simp only
      rw [numT_put _ (by omega)]
      simp only [Bool.and_self]
      have : (((C.get i).toNat : Nat) : Int) = C.get i := by omega
      rw [this]
    · rw [Clk.get_set _ _ _ (by omega) (by omega)]
      by_cases hij : i = j
      · rw [if_pos hij, hij]
      · rw [if_neg hij]; exact h2 j (by omega)
theorem evT_ok {b : List UInt8} : ∀ (i : Nat) {l : List Ev} {s : List UInt8}, evT b i = some (l, s) → l.length = i ∧ b = evsB l ++ s
  | 0, l, s, h => by
    rw [evT] at h
    cases h
    exact ⟨rfl, rfl⟩
  | i + 1, l, s, h => by
    rw [evT] at h
    cases hq : evT b i with
    | none => rw [hq] at h; cases h
    | some q =>
      rw [hq] at h
      obtain ⟨l', s'⟩ := q
      obtain ⟨h1, h2⟩ := evT_ok i hq
      have h : evT1 (l', s') = some (l, s) := h
      unfold evT1 at h
      simp only at h
      split at h
      · rename_i h0
        rcases takeE_any s' with ⟨_, _, h5, _, h7⟩ | ⟨h5, _⟩
        · cases h
          refine ⟨by rw [List.length_append, h1]; rfl, ?_⟩
          rw [h5]
          have e : (((putE (takeE s').1).length : Nat) : Int).toNat = (putE (takeE s').1).length := by omega
          rw [e, h2]
          show _ = (l' ++ [(takeE s').1]).flatMap putE ++ _
          rw [List.flatMap_append, List.append_assoc]
          congr 1
          show s' = ([(takeE s').1].flatMap putE) ++ _
          have e2 : [(takeE s').1].flatMap putE = putE (takeE s').1 := by simp
          rw [e2]
          conv => lhs; rw [← List.take_append_drop (putE (takeE s').1).length s', h7]
        · exact absurd h0 h5
      · cases h
theorem evT_put (l : List Ev) (hl : ∀ y ∈ l, evMay y = 0) : ∀ i, i ≤ l.length → ∀ s, evT (evsB (l.take i) ++ s) i = some (l.take i, s)
  | 0, _, s => rfl
  | i + 1, hi, s => by
    rw [evT, evsB_succ l i (by omega), List.append_assoc, evT_put l hl i (by omega)]
    show evT1 (l.take i, putE l[i] ++ s) = _
    have hy := evMay_ok (hl l[i] (List.getElem_mem _))
    unfold evT1
    simp only
    rw [takeE_put _ hy]
    simp only [if_true]
    rw [List.take_succ_eq_append_getElem (by omega : i < l.length)]
    have : (((putE l[i]).length : Nat) : Int).toNat = (putE l[i]).length := by omega
    rw [this, List.drop_left]
theorem get2 {b : List UInt8} (h : 3 ≤ b.length) : b = b.getD 0 0 :: b.getD 1 0 :: b.getD 2 0 :: b.drop 3 := by
  match b, h with
  | x :: y :: z :: l, _ => rfl
theorem bodyT_ok {b : List UInt8} {f : Rec} (h : bodyT b = some f) : frMay f = true ∧ bodyF f = b := by
  unfold bodyT at h
  cases hq : bodyS b with
  | none => rw [hq] at h; cases h
  | some q =>
    rw [hq] at h
    have h : bodyQ q = some f := h
    unfold bodyQ at h
    split at h
    · rename_i hc
      simp only [Bool.and_eq_true, decide_eq_true_eq] at hc
      obtain ⟨⟨hok, hnil⟩, hmay⟩ := hc
      have hnil := List.eq_nil_of_length_eq_zero hnil
      cases h
      refine ⟨hmay, ?_⟩
      have ok := frMay_ok hmay
      unfold bodyS at hq
      split at hq
      · cases hq
      rename_i hlen
      have hb := get2 (Nat.le_of_not_lt hlen)
      have hd2 : b.drop 2 = b.getD 2 0 :: b.drop 3 := by rw [hb]; rfl
      have key : ∀ q1 : Rec, q1.kind = ((b.getD 0 0).toNat : Int) → q1.r = ((b.getD 1 0).toNat : Int) → (if fHas q1.kind = 2 then vput q1.upto.toNat else if fHas q1.kind = 3 then clkB q1.c 5 else UInt8.ofNat q1.es.length :: evsB q1.es) = b.drop 2 → bodyF q1 = b := by
        intro q1 e1 e2 e3
        unfold bodyF
        rw [e3, ofNat_of e1, ofNat_of e2, hd2]
        exact hb.symm
      simp only at hq
      generalize hs : b.drop 2 = s at *
      split at hq
      · rename_i h2
        cases hq
        refine key _ rfl rfl ?_
        rw [if_pos h2]
        have hu := ok.u1
        have hu : (((numT s).1 : Nat) : Int) ≤ 1048576 := hu
        have h3 := numT_ok hok (by omega)
        have hnil : (numT s).2.1 = [] := hnil
        rw [hnil, List.append_nil] at h3
        exact h3.symm
      · rename_i h2
        split at hq
        · rename_i h3
          have h4 := fun C hC => clkTT_ok (b := s) C hC 5 (Nat.le_refl _)
          generalize clkTT s 5 = t at h4 hq
          obtain ⟨tc, tl, tb⟩ := t
          cases hq
          refine key _ rfl rfl ?_
          rw [if_neg h2, if_pos h3]
          have h4 := h4 tc (fun j hj => (ok.c j hj).2) hok fun _ _ => rfl
          have hnil : tl = [] := hnil
          rw [hnil, List.append_nil] at h4
          exact h4.symm
        · rename_i h3
          split at hq
          · rename_i h1
            cases hv : evT (s.drop 1) (s.getD 0 0).toNat with
            | none => rw [hv] at hq; cases hq
            | some p =>
              rw [hv] at hq
              cases hq
              obtain ⟨l, t⟩ := p
              obtain ⟨h4, h5⟩ := evT_ok _ hv
              refine key _ rfl rfl ?_
              rw [if_neg h2, if_neg h3]
              have hnil : t = [] := hnil
              show UInt8.ofNat l.length :: evsB l = s
              rw [hnil, List.append_nil] at h5
              rw [← h5, h4, hd2]
              simp
          · rename_i h1
            cases hq
            exfalso
            rcases fHas_123 ((b.getD 0 0).toNat : Int) with h | h | h | h
            · exact ok.is h
            · exact h1 h
            · exact h2 h
            · exact h3 h
    · cases h
theorem bodyF_cons (x : Rec) : bodyF x = UInt8.ofNat x.kind.toNat :: UInt8.ofNat x.r.toNat :: (if fHas x.kind = 2 then vput x.upto.toNat else if fHas x.kind = 3 then clkB x.c 5 else UInt8.ofNat x.es.length :: evsB x.es) := rfl
theorem bodyF_len3 (x : Rec) : 3 ≤ (bodyF x).length := by
  rw [bodyF_cons, List.length_cons, List.length_cons]
  have : 0 < (if fHas x.kind = 2 then vput x.upto.toNat else if fHas x.kind = 3 then clkB x.c 5 else UInt8.ofNat x.es.length :: evsB x.es).length := by
    split
    · exact vput_pos _
    · split
      · rw [clkB_succ, List.length_append]; have := vput_pos (x.c.get 4).toNat; omega
      · simp
  omega
theorem byteN (n : Int) (h0 : 0 ≤ n) (h1 : n ≤ 255) : (((UInt8.ofNat n.toNat).toNat : Nat) : Int) = n := by
  have h : (UInt8.ofNat n.toNat).toNat = n.toNat := by rw [UInt8.toNat_ofNat']; omega
  rw [h]; omega
theorem bodyT_of {x : Rec} (hm : frMay x = true) : bodyT (bodyF x) = some x := by
  have ok := frMay_ok hm
  have hk := fHas_in ok.is
  have h3 := bodyF_len3 x
  have hq : bodyS (bodyF x) = some (x, [], true) := by
    unfold bodyS
    rw [if_neg (by omega)]
    have e0 : (bodyF x).getD 0 0 = UInt8.ofNat x.kind.toNat := rfl
    have e1 : (bodyF x).getD 1 0 = UInt8.ofNat x.r.toNat := rfl
    have e2 : (bodyF x).drop 2 = (if fHas x.kind = 2 then vput x.upto.toNat else if fHas x.kind = 3 then clkB x.c 5 else UInt8.ofNat x.es.length :: evsB x.es) := rfl
    rw [e0, e1, e2, byteN _ (by omega) (by omega), byteN _ ok.r0 (by have := ok.r5; omega)]
    simp only
    by_cases h2 : fHas x.kind = 2
    · rw [if_pos h2, if_pos h2]
      have hes : x.es = [] := ok.h1.resolve_left (by rw [h2]; decide)
      have hcc : x.c = clk0 := ok.h3.resolve_left (by rw [h2]; decide)
      have hn := numT_put x.upto.toNat (by have := ok.u1; omega) []
      rw [List.append_nil] at hn
      rw [hn]
      simp only
      have hu : ((x.upto.toNat : Nat) : Int) = x.upto := by have := ok.u0; omega
      rw [hu, ← hes, ← hcc]
    · rw [if_neg h2, if_neg h2]
      have hup : x.upto = 0 := ok.h2.resolve_left h2
      by_cases h3 : fHas x.kind = 3
      · rw [if_pos h3, if_pos h3]
        have hes : x.es = [] := ok.h1.resolve_left (by rw [h3]; decide)
        obtain ⟨c, h4, h5⟩ := clkTT_put x.c ok.c 5 (Nat.le_refl _) []
        rw [List.append_nil] at h4
        have hc : c = x.c := Clk.ext' fun j hj => h5 j hj
        rw [h4, hc]
        simp only
        rw [← hup, ← hes]
      · rw [if_neg h3, if_neg h3]
        have h1 : fHas x.kind = 1 := by
          rcases fHas_123 x.kind with h | h | h | h
          · exact absurd h ok.is
          · exact h
          · exact absurd h h2
          · exact absurd h h3
        have hcc : x.c = clk0 := ok.h3.resolve_left h3
        rw [if_pos h1]
        have h6 := evT_put x.es ok.es x.es.length (Nat.le_refl _) []
        rw [List.take_length, List.append_nil] at h6
        have hmost := ok.most
        have e5 : (UInt8.ofNat x.es.length).toNat = x.es.length := by rw [UInt8.toNat_ofNat']; omega
        have e6 : ((UInt8.ofNat x.es.length :: evsB x.es).getD 0 0).toNat = x.es.length := e5
        have e7 : (UInt8.ofNat x.es.length :: evsB x.es).drop 1 = evsB x.es := rfl
        rw [e6, e7, h6]
        simp only [Option.map_some]
        rw [← hup, ← hcc]
  unfold bodyT
  rw [hq]
  show bodyQ (x, [], true) = some x
  unfold bodyQ
  rw [hm]; rfl
theorem putF_len {x : Rec} (ok : FrOk x) : (putF x).length ≤ 1100 := by
  have h := bodyF_len ok
  have hv := vput_len10 (bodyF x).length (by omega)
  unfold putF
  rw [sealL_length, List.length_append]; omega
theorem takeF_put {x : Rec} (hm : frMay x = true) : takeF (putF x) = (x, 0) := by
  have ok := frMay_ok hm
  have hl := putF_len ok
  have h := bodyF_len ok
  unfold takeF
  rw [if_neg (by omega)]
  unfold putF
  rw [openL_seal]
  simp only
  rw [vtake_put _ (Nat.le_trans (vput_len 3 _ (by omega)) (by decide))]
  simp only [List.length_append, List.drop_left]
  rw [if_neg (by omega), bodyT_of hm]
theorem takeF_ok {b : List UInt8} (h : (takeF b).2 = 0) : b.length ≤ 2048 ∧ frMay (takeF b).1 = true ∧ putF (takeF b).1 = b := by
  unfold takeF at h ⊢
  split at h
  · cases h
  rename_i hlen
  rw [if_neg hlen]
  cases ho : openL b with
  | none => rw [ho] at h; cases h
  | some t =>
    rw [ho] at h
    simp only at h ⊢
    split at h
    · cases h
    rename_i hv
    rw [if_neg hv]
    have hv0 : (vtake t).2.2 = 0 := Decidable.byContradiction fun hh => hv (.inl hh)
    have hv1 : (vtake t).1 = t.length - (vtake t).2.1 := Decidable.byContradiction fun hh => hv (.inr hh)
    cases hb : bodyT (t.drop (vtake t).2.1) with
    | none => rw [hb] at h; cases h
    | some f =>
      simp only
      obtain ⟨h1, h2⟩ := bodyT_ok hb
      refine ⟨by omega, h1, ?_⟩
      obtain ⟨h3, h4, h5⟩ := vtake_split hv0
      unfold putF
      rw [h2, List.length_drop, ← hv1, ← h3]
      exact (openL_some ho).symm
theorem takeF_code (b : List UInt8) : (takeF b).2 = 0 ∨ (takeF b).1 = rec0 ∧ ((takeF b).2 = 5 ∨ (takeF b).2 = 4 ∨ (takeF b).2 = 3) := by
  unfold takeF
  split
  · exact .inr ⟨rfl, .inl rfl⟩
  · split
    · exact .inr ⟨rfl, .inr (.inl rfl)⟩
    · split
      · exact .inr ⟨rfl, .inr (.inr rfl)⟩
      · split
        · exact .inr ⟨rfl, .inr (.inr rfl)⟩
        · exact .inl rfl
end Go.Proofs.Ytgdbbaggkoillaa
/- event.Take: the walk. -/
namespace Go.Proofs.Ytgdbbaggkoillaa
open K
set_option maxRecDepth 100000
set_option maxHeartbeats 4000000

theorem retc3 {P : Program} {fn : Func} {R : Value → World → Prop} {e : Env} {w : World} {t t' t'' T T1 T' T1' b b' n : Nat} {cs : List Value} {v u : Value} [h' : Ag P T n] [h1 : Sc P T'] (h : fn.results.toList = [.cell t T, .tmp t', .cell t'' T']) (hv : e t = .pointer (some ⟨b, 0, none⟩)) (hb : w.heap[b]? = some (.cells cs.toArray T1 (0, 0))) (hn : cs.length = n) (hv' : e t' = v)
    (hv'' : e t'' = .pointer (some ⟨b', 0, none⟩)) (hb' : w.heap[b']? = some (.cells [u].toArray T1' (0, 0))) (hR : R (.tuple #[.agg cs.toArray, v, u]) w) : retE P fn R e w :=
  ⟨[.agg cs.toArray, v, u], by rw [h]; exact ⟨_, _, [v, u], hv, lv_row hb hn, rfl, [u], by rw [hv'], _, _, [], hv'', lv_one hb', rfl, rfl⟩, hR⟩

theorem r_fn4 {P : Program} {e : Env} {w : World} {d : Option Nat} {ty : Nat} {pos : String} {af : Array Edge} {g : Option (Nat × Bool)} {fn : Fn} {x y z t : Operand} {v u p q : Value} (hx : ev e x = v) (hy : ev e y = u) (hz : ev e z = p) (ht : ev e t = q) : (execOp (ev e) ⟨d, .makeFunc fn #[] #[x, y, z, t], ty, pos, af, g⟩).run P w = .ok (.value (.func fn #[] #[v, u, p, q])) w := by
  subst hx; subst hy; subst hz; subst ht; simp [execOp, Instr.makeFunc]

theorem K.Mem.castR {w0 w : World} {bR bE bL bF bO : Nat} {cs cs' : List Value} {e : Int} {v : Value} (h : Mem w0 No w (setN (tkL bR bE bL bF bO cs e v) 0 (bk bR cs' 25))) {cs'' : List Value} (hc : cs' = cs'') : Mem w0 No w (tkL bR bE bL bF bO cs'' e v) := by subst hc; exact h
theorem c_eTake (b : List UInt8) (hl : b.length ≤ 4611686018427387904) (v : Value) (w : World) (hs : Sl w v b) : Cl Try.prog 24 #[v] w (fun r w' => r = .tuple #[.agg (evC (takeE b).1).toArray, .int .i64 (takeE b).2.1, .int .i64 (takeE b).2.2] ∧ Chg No w w') := by
  have hs0 := hs
  obtain ⟨a, c, rfl, hac, H⟩ := hs
  refine f_enter (args := [_]) Try.func24 rfl rfl ?_
  have mm := Mem.nil No w
  refine c_sreg rfl ?_
  refine so (o_al mm fun b2 w2 mm => ?_)
  refine s1 (r_asi rfl) ?_
  refine so (o_al mm fun b3 w3 mm => ?_)
  refine wn ?_
  refine c_sreg rfl ?_
  refine s1 (r_mvs rfl) ?_
  refine so (o_al mm fun b4 w4 mm => ?_)
  refine ss (o_st mm 2 rfl rfl rfl rfl rfl fun w5 mm => ?_)
  refine wn ?_
  refine c_sreg rfl ?_
  refine s1 (r_fn1 rfl) ?_
  refine so (o_al mm fun b6 w6 mm => ?_)
  refine ss (o_st mm 3 rfl rfl rfl rfl rfl fun w7 mm => ?_)
  refine wn ?_
  refine c_sreg rfl ?_
  refine s1 (r_fn3 rfl rfl rfl) ?_
  refine so (o_al mm fun b8 w8 mm => ?_)
  refine ss (o_st mm 4 rfl rfl rfl rfl rfl fun w9 mm => ?_)
  refine wn ?_
  refine c_sreg rfl ?_
  refine s1 (r_fn3 rfl rfl rfl) ?_
  refine s1 (r_asf rfl) ?_
  refine wn ?_
  refine c_sreg rfl ?_
  refine s1 (r_fn4 rfl rfl rfl rfl) ?_
  refine s1 (r_asf rfl) ?_
  refine wn ?_
  have mm : Mem w No w9 (tkL b2 b3 b4 b6 b8 (evC evZ) 0 (.slice a b.length c)) := mm
  have E6 : b6 = b6 := rfl
  unfold takeE
  generalize htk : takeS b = T
  have hTb := htk
  unfold takeS at htk
  have l1 := @tOne_le 1 5 b 0
  generalize hq1 : tOne 1 5 b 0 = q1 at *
  obtain ⟨kd, u1, e1⟩ := q1
  dsimp only at htk l1
  have l2 := @tOne_le 0 4 u1 e1
  generalize hq2 : tOne 0 4 u1 e1 = q2 at *
  obtain ⟨r, u2, e2⟩ := q2
  dsimp only at htk l2
  refine c_sdraw mixed [(0, true), (2, true), (1, false), (4, true), (3, false), (5, false), (6, true), (7, false)] [true, true, true, true, true, true, true, false] (Sof (mm.pk [4] (by decide))) (by kernel_rfl) rfl rfl (by kernel_rfl) (fun w10 hc => ?_)
  have mm := mm.frame hc
  refine p1 rfl (fun w m => r_ld rfl (m.b 0 rfl) rfl) (mm.pk [4] (by decide)) ?_
  refine p1 rfl (fun w m => r_ld rfl (m.b 0 rfl) rfl) (mm.pk [4] (by decide)) ?_
  refine po rfl (o_f23 rfl rfl rfl (hq1 ▸ c_tk2 mm hs0 hl 1 5) ?_)
  rintro _ w11 ⟨v1, rfl, mm, hs1⟩
  refine ⟨fun _ => mm.pk [4] (by decide), ?_⟩
  refine p1 rfl (fun w m => r_fa rfl) (mm.pk [4] (by decide)) ?_
  refine po rfl (o_f23 rfl rfl rfl (hq2 ▸ c_tk2 mm hs1 (by dsimp only; omega) 0 4) ?_)
  rintro _ w12 ⟨v2, rfl, mm, hs2⟩
  refine ⟨fun _ => mm.pk [4] (by decide), ?_⟩
  refine ps rfl (o_st mm 0 rfl rfl rfl rfl rfl fun w13 mm => ⟨fun _ => mm.pk [4] (by decide), ?_⟩)
  refine p1 rfl (fun w m => r_fa rfl) (mm.pk [4] (by decide)) ?_
  refine ps rfl (o_st mm 0 rfl rfl rfl rfl rfl fun w14 mm => ⟨fun h => absurd rfl h, ?_⟩)
  refine pn ?_
  have mm : Mem w No w14 (tkL b2 b3 b4 b6 b8 (evC ⟨r, 0, clk0, 0, kd, [], 0, []⟩) e2 v2) := mm
  have l3 := @tNum_le 1 1048576 u2 e2
  generalize hq3 : tNum 1 1048576 u2 e2 = q3 at *
  obtain ⟨n, u3, e3⟩ := q3
  dsimp only at htk l3
  refine c_sreg rfl ?_
  refine s1 (r_mvf rfl) ?_
  refine so (o_f23 rfl rfl rfl (hq3 ▸ c_tk3 mm hs2 (by dsimp only; omega) 1 1048576 (by decide) (by decide) (by decide) (by decide)) ?_)
  rintro _ w15 ⟨v3, rfl, mm, hs3⟩
  refine s1 (r_fa rfl) ?_
  refine ss (o_st mm 0 rfl rfl rfl rfl rfl fun w16 mm => ?_)
  refine wn ?_
  have mm : Mem w No w16 (tkL b2 b3 b4 b6 b8 (evC ⟨r, n, clk0, 0, kd, [], 0, []⟩) e3 v3) := mm
  refine c_seq ?_
  refine c_sreg rfl ?_
  refine s1 (r_mvi rfl) ?_
  refine wn ?_
  refine c_block ?_
  refine c_loop (fun k e w' => ∃ (i : Nat) (v : Value), k + i = 5 ∧ e 0 = .slice a b.length c ∧ e 2 = .pointer (some ⟨b2, 0, none⟩) ∧ e 4 = .pointer (some ⟨b3, 0, none⟩) ∧ e 5 = .pointer (some ⟨b4, 0, none⟩) ∧ e 6 = .pointer (some ⟨b6, 0, none⟩) ∧ e 7 = .pointer (some ⟨b8, 0, none⟩) ∧
      e 8 = .func (.func 52) #[] #[.pointer (some ⟨b4, 0, none⟩), .pointer (some ⟨b3, 0, none⟩), .pointer (some ⟨b6, 0, none⟩)] ∧ e 9 = .func (.func 53) #[] #[.pointer (some ⟨b8, 0, none⟩), .pointer (some ⟨b3, 0, none⟩), .pointer (some ⟨b4, 0, none⟩), .pointer (some ⟨b6, 0, none⟩)] ∧ e 25 = .int .i64 i ∧
      Mem w No w' (tkL b2 b3 b4 b6 b8 (evC ⟨r, n, (tCtx r u3 e3 i).1, 0, kd, [], 0, []⟩) (tCtx r u3 e3 i).2.2 v) ∧ Sl w v (tCtx r u3 e3 i).2.1) 5 ?_ ?_
  · exact ⟨0, v3, rfl, rfl, rfl, rfl, rfl, rfl, rfl, rfl, rfl, rfl, mm, hs3⟩
  clear mm hc
  rintro k e w9 ⟨i, v4, hki, h0, h2, h4, h5, h6, h7, h8, h9, h25, mm, hs4⟩
  have l4 := @tCtx_le r u3 e3 i
  refine c_sreg rfl ?_
  refine s1 (r_lt h25 rfl) ?_
  refine wn ?_
  refine c_seq ?_
  refine c_cond rfl (fun h => (c_skip (t_n ?_))) (fun h => (c_exit (t_x (t_x (b_x (t_n ?_))))))
  · have hi : i < 5 := by simp at h; omega
    clear h
    refine c_seq ?_
    refine c_block ?_
    refine c_sreg rfl ?_
    refine s1 (r_mvi h25) ?_
    refine s1 (r_asi rfl) ?_
    refine wn ?_
    refine c_sreg rfl ?_
    refine s1 (r_mvi rfl) ?_
    refine s1 (r_fa h2) ?_
    refine s1 (r_ld rfl (mm.b 0 rfl) rfl) ?_
    refine s1 (r_ne rfl rfl) ?_
    refine wn ?_
    have hst : tCtx r u3 e3 (i + 1) = tStep r i (tCtx r u3 e3 i) := rfl
    generalize tCtx r u3 e3 i = q at *
    obtain ⟨cc, u4, e4⟩ := q
    dsimp only at l4
    refine c_cond rfl (fun h => ?_) (fun h => (c_skip (b_n (t_n ?_))))
    · have hne : (i : Int) ≠ r := by simpa using h
      unfold tStep at hst
      rw [if_pos hne] at hst
      refine c_region rfl ?_
      refine s1 (r_mvi rfl) ?_
      refine s1 (r_mvf h8) ?_
      refine so (o_f23 rfl rfl rfl (c_tk3 mm hs4 (by dsimp only; omega) 0 1048576 (by decide) (by decide) (by decide) (by decide)) ?_)
      rintro _ w17 ⟨v5, rfl, mm, hs5⟩
      refine s1 (r_fa h2) ?_
      refine s1 (r_ixa rfl rfl (by omega) (by omega)) ?_
      refine ss (o_st mm 0 rfl rfl rfl rfl (blt_evi _ i hi) fun w18 mm => ?_)
      refine wn (b_n (t_n ?_))
      have mm := mm.castR (setN_evi _ i hi _)
      refine c_region rfl ?_
      refine s1 (r_add h25 rfl (wi (by omega) (by omega))) ?_
      refine s1 (r_mvi rfl) ?_
      refine wn (t_n ?_)
      refine ⟨k - 1, by omega, i + 1, v5, by omega, h0, h2, h4, h5, h6, h7, h8, h9, rfl, ?_, ?_⟩
      · rw [hst]; exact mm
      · rw [hst]; exact hs5
    · have hne : ¬ (i : Int) ≠ r := by simpa using h
      unfold tStep at hst
      rw [if_neg hne] at hst
      refine c_region rfl ?_
      refine s1 (r_add h25 rfl (wi (by omega) (by omega))) ?_
      refine s1 (r_mvi rfl) ?_
      refine wn (t_n ?_)
      refine ⟨k - 1, by omega, i + 1, v4, by omega, h0, h2, h4, h5, h6, h7, h8, h9, rfl, ?_, ?_⟩
      · rw [hst]; exact mm
      · rw [hst]; exact hs4
  have hi : i = 5 := by simp at h; omega
  subst hi
  clear h h25
  generalize tCtx r u3 e3 5 = q4 at *
  obtain ⟨cc, u4, e4⟩ := q4
  dsimp only at l4 htk
  have l5 := @tNum_le 1 16777216 u4 e4
  generalize hq5 : tNum 1 16777216 u4 e4 = q5 at *
  obtain ⟨hh, u5, e5⟩ := q5
  dsimp only at htk l5
  refine c_sreg rfl ?_
  refine s1 (r_mvf h8) ?_
  refine so (o_f23 rfl rfl rfl (hq5 ▸ c_tk3 mm hs4 (by dsimp only; omega) 1 16777216 (by decide) (by decide) (by decide) (by decide)) ?_)
  rintro _ w19 ⟨v5, rfl, mm, hs5⟩
  refine s1 (r_fa h2) ?_
  refine ss (o_st mm 0 rfl rfl rfl rfl rfl fun w20 mm => ?_)
  refine wn ?_
  have mm := mm.castR (cs'' := evC ⟨r, n, cc, hh, kd, [], 0, []⟩) rfl
  have l6 := @tWords_le 8 u5 e5
  generalize hq6 : tWords 8 u5 e5 = q6 at *
  obtain ⟨key, u6, e6⟩ := q6
  dsimp only at htk l6
  refine c_seq ?_
  refine c_sreg rfl ?_
  refine s1 (r_mvf h9) ?_
  refine so (o_f14 rfl rfl (hq6 ▸ c_tk4 mm hs5 (by dsimp only; omega) 8) ?_)
  rintro _ w21 ⟨v6, rfl, mm, hs6⟩
  refine s1 (r_fa h2) ?_
  refine ss (o_st mm 0 rfl rfl rfl rfl rfl fun w22 mm => ?_)
  refine wn ?_
  have mm := mm.castR (cs'' := evC ⟨r, n, cc, hh, kd, key, 0, []⟩) rfl
  refine c_sreg rfl ?_
  refine s1 (r_fa h2) ?_
  refine s1 (r_ld rfl (mm.b 0 rfl) rfl) ?_
  refine so (o_c1 rfl (c_tKey key _) ?_)
  rintro _ w23 ⟨rfl, hc⟩
  have mm := mm.frame hc
  refine s1 (r_ne rfl rfl) ?_
  refine wn ?_
  refine c_mid0 (fun e w' => e 0 = .slice a b.length c ∧ e 2 = .pointer (some ⟨b2, 0, none⟩) ∧ e 4 = .pointer (some ⟨b3, 0, none⟩) ∧ e 5 = .pointer (some ⟨b4, 0, none⟩) ∧ e 7 = .pointer (some ⟨b8, 0, none⟩) ∧ e 9 = .func (.func 53) #[] #[.pointer (some ⟨b8, 0, none⟩), .pointer (some ⟨b3, 0, none⟩), .pointer (some ⟨b4, 0, none⟩), .pointer (some ⟨b6, 0, none⟩)] ∧ Mem w No w' (tkL b2 b3 b4 b6 b8 (evC ⟨r, n, cc, hh, kd, key, 0, []⟩) (tKeyE key e6) v6)) ?_ ?_
  · refine c_cond rfl (fun h => ?_) (fun h => (c_skip (t_n ?_)))
    · have hk : ¬ keyOk key = true := fun hk => by
        rw [show tKey key = 0 from if_pos hk] at h
        cases h
      have hke : tKeyE key e6 = if e6 = 0 then 3 else e6 := if_neg hk
      rw [hke]
      refine c_region rfl ?_
      refine s1 (r_ld h6 (mm.b 3 rfl) rfl) ?_
      refine so (o_f11 rfl rfl (c_tk1 mm 3) ?_)
      rintro _ w24 ⟨rfl, mm⟩
      refine wn (t_n ?_)
      exact ⟨h0, h2, h4, h5, h7, h9, mm⟩
    · have hk : keyOk key = true := by
        refine Classical.byContradiction fun hk => ?_
        rw [show tKey key = 10 from if_neg hk] at h
        cases h
      have hke : tKeyE key e6 = e6 := if_pos hk
      rw [hke]
      exact ⟨h0, h2, h4, h5, h7, h9, mm⟩
  clear h0 h2 h4 h5 h6 h7 h8 h9 mm hc
  rintro e w9 ⟨h0, h2, h4, h5, h7, h9, mm⟩
  generalize tKeyE key e6 = ek at *
  refine c_seq ?_
  refine c_sreg rfl ?_
  refine s1 (r_fa h2) ?_
  refine s1 (r_ld rfl (mm.b 0 rfl) rfl) ?_
  refine s1 (r_gt rfl rfl) ?_
  refine wn ?_
  refine c_mid0 (fun e w' => ∃ (x : Ev) (u : List UInt8) (er : Int) (v : Value), T = (x, u, er) ∧ e 0 = .slice a b.length c ∧ e 2 = .pointer (some ⟨b2, 0, none⟩) ∧ e 4 = .pointer (some ⟨b3, 0, none⟩) ∧ e 5 = .pointer (some ⟨b4, 0, none⟩) ∧ Mem w No w' (tkL b2 b3 b4 b6 b8 (evC x) er v) ∧ Sl w v u ∧ u.length ≤ b.length) ?_ ?_
  · refine c_cond rfl (fun h => ?_) (fun h => (c_skip (t_n ?_)))
    · have hk : 2 < kd := by simpa using h
      rw [if_pos hk] at htk
      have l7 := @tOne_le 0 1 u6 ek
      generalize hq7 : tOne 0 1 u6 ek = q7 at *
      obtain ⟨lb, u7, e7⟩ := q7
      dsimp only at htk l7
      refine c_sreg rfl ?_
      refine s1 (r_ld h7 (mm.b 4 rfl) rfl) ?_
      refine so (o_f23 rfl rfl rfl (hq7 ▸ c_tk2 mm hs6 (by dsimp only; omega) 0 1) ?_)
      rintro _ w25 ⟨v7, rfl, mm, hs7⟩
      refine s1 (r_fa h2) ?_
      refine ss (o_st mm 0 rfl rfl rfl rfl rfl fun w26 mm => ?_)
      refine wn ?_
      have mm := mm.castR (cs'' := evC ⟨r, n, cc, hh, kd, key, lb, []⟩) rfl
      have l8 := @tWords_le 12 u7 e7
      generalize hq8 : tWords 12 u7 e7 = q8 at *
      obtain ⟨vl, u8', e8⟩ := q8
      dsimp only at htk l8
      refine c_region rfl ?_
      refine s1 (r_mvf h9) ?_
      refine so (o_f14 rfl rfl (hq8 ▸ c_tk4 mm hs7 (by dsimp only; omega) 12) ?_)
      rintro _ w27 ⟨v8, rfl, mm, hs8⟩
      refine s1 (r_fa h2) ?_
      refine ss (o_st mm 0 rfl rfl rfl rfl rfl fun w28 mm => ?_)
      refine wn (t_n ?_)
      have mm := mm.castR (cs'' := evC ⟨r, n, cc, hh, kd, key, lb, vl⟩) rfl
      exact ⟨_, _, _, _, htk.symm, h0, h2, h4, h5, mm, hs8, by omega⟩
    · have hk : ¬ 2 < kd := by simpa using h
      rw [if_neg hk] at htk
      exact ⟨_, _, _, _, htk.symm, h0, h2, h4, h5, mm, hs6, by omega⟩
  clear htk h0 h2 h4 h5 h7 h9 mm
  trace_state
  rintro e w9 ⟨x, u, er, v, hT, h0, h2, h4, h5, mm, hs9, l9⟩
  have hT2 : takeS b = (x, u, er) := hTb.trans hT
  subst hT
  refine c_seq ?_
  refine c_sreg rfl ?_
  refine s1 (r_ld h4 (mm.b 1 rfl) rfl) ?_
  refine s1 (r_ne rfl rfl) ?_
  refine wn ?_
  refine c_cond rfl (fun h => ?_) (fun h => (c_skip (t_n ?_)))
  · have hz : er ≠ 0 := by simpa using h
    unfold takeFin
    rw [if_pos hz]
    refine c_sdraw mixed [(0, true), (1, true), (2, false), (3, true), (4, false)] [true, true, true, true, false] (Sof (mm.pk [2, 1] (by decide))) (by kernel_rfl) rfl rfl (by kernel_rfl) (fun w29 hc => ?_)
    have mm := mm.frame hc
    refine p1 rfl (fun w m => r_bd bN rfl) (mm.pk [2, 1] (by decide)) ?_
    refine p1 rfl (fun w m => r_ld h4 (m.b 1 rfl) rfl) (mm.pk [2, 1] (by decide)) ?_
    refine ps rfl (o_sta mm 0 rfl h2 rfl rfl rfl (Nat.le_of_ble_eq_true rfl) fun w30 mm => ⟨fun _ => mm.pk [2, 1] (by decide), ?_⟩)
    refine p1 rfl (fun w m => r_asi rfl) (mm.pk [2, 1] (by decide)) ?_
    refine ps rfl (o_st mm 1 rfl h4 rfl rfl rfl fun w31 mm => ⟨fun h => absurd rfl h, ?_⟩)
    refine pn ?_
    exact c_ret (retc3 rfl h2 (mm.b 0 rfl) rfl rfl h4 (mm.b 1 rfl) ⟨rfl, mm.chg⟩)
  have hz : er = 0 := by simpa using h
  subst hz
  have hok := takeS_in b (by rw [hT2])
  rw [hT2] at hok
  have i1 : 0 ≤ x.r := hok.r0
  have i2 : x.r < 5 := hok.r5
  have i3 : 1 ≤ x.n := hok.n1
  have i4 : x.n ≤ 1048576 := hok.n2
  obtain ⟨a', c', rfl, _, _⟩ := hs9
  unfold takeFin
  rw [if_neg (by simp)]
  refine c_sreg rfl ?_
  refine s1 (r_fa h2) ?_
  refine s1 (r_ld rfl (mm.b 0 rfl) rfl) ?_
  refine s1 (r_fa h2) ?_
  refine s1 (r_ld rfl (mm.b 0 rfl) rfl) ?_
  refine s1 (r_sub rfl rfl (wi (by omega) (by omega))) ?_
  refine s1 (r_fa h2) ?_
  refine s1 (r_ixa rfl rfl i1 i2) ?_
  refine ss (o_st mm 0 rfl rfl rfl rfl (blt_evr _ _ i1 i2) fun w32 mm => ?_)
  refine wn ?_
  have mm := mm.castR (setN_evr _ _ i1 i2 _)
  refine c_sdraw mixed [(0, true), (1, true), (2, true), (3, true), (4, true), (5, true), (6, false), (7, true), (8, false)] [true, true, true, true, true, true, true, true, false] (Sof mm) (by kernel_rfl) rfl rfl (by kernel_rfl) (fun w33 hc => ?_)
  have mm := mm.frame hc
  refine p1 rfl (fun w m => r_lda h2 (m.b 0 rfl) rfl) mm ?_
  refine p1 rfl (fun w m => r_mvs h0) mm ?_
  refine p1 rfl (fun w m => r_len rfl) mm ?_
  refine p1 rfl (fun w m => r_ld h5 (m.b 2 rfl) rfl) mm ?_
  refine p1 rfl (fun w m => r_len rfl) mm ?_
  refine p1 rfl (fun w m => r_sub rfl rfl (show IntKind.i64.wrap ((b.length : Int) - (u.length : Int)) = ((b.length - u.length : Nat) : Int) from by rw [wi (by omega) (by omega)]; omega)) mm ?_
  refine ps rfl (o_sta mm 0 rfl h2 rfl rfl rfl (Nat.le_of_ble_eq_true rfl) fun w34 mm => ⟨fun _ => mm, ?_⟩)
  refine p1 rfl (fun w m => r_asi rfl) mm ?_
  refine ps rfl (o_st mm 1 rfl h4 rfl rfl rfl fun w35 mm => ⟨fun h => absurd rfl h, ?_⟩)
  refine pn ?_
  exact c_ret (retc3 rfl h2 (mm.b 0 rfl) rfl rfl h4 (mm.b 1 rfl) ⟨rfl, mm.chg⟩)
end Go.Proofs.Ytgdbbaggkoillaa
