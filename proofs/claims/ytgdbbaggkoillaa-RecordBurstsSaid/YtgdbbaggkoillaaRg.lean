/- kithref06.Same, kithref18.Same, kithlaw18.made: walks. -/
import Derived.Test.YtgdbbaggkoillaaSc
import Derived.Test.YtgdbbaggkoillaaRw
import Derived.Test.YtgdbbaggkoillaaKp
import Derived.Test.YtgdbbaggkoillaaFd
namespace Go.Proofs.Ytgdbbaggkoillaa
open K
set_option maxRecDepth 100000
set_option maxHeartbeats 4000000

def Sle (w : World) (v : Value) (l : List Ev) : Prop := ∃ a c, v = .slice a l.length c ∧ Cells w a (evsC l)
theorem c_same6 (l l' : List Ev) (hl : ∀ y ∈ l, EvW y) (hm : ∀ y ∈ l', EvW y) (hll : l.length ≤ 1000000000000000) (v u : Value) (w : World) (hs : Sle w v l) (ht : Sle w u l') : Cl Try.prog 72 #[v, u] w (fun r w' => r = .bool (decide (l = l')) ∧ Chg No w w') := by
  obtain ⟨a, c, rfl, H⟩ := hs
  obtain ⟨a', c', rfl, H'⟩ := ht
  refine f_enter (args := [_, _]) Try.func72 rfl rfl ?_
  have mm := Mem.nil No w
  refine c_sreg rfl ?_
  refine s1 (r_asb rfl) ?_
  refine wn ?_
  refine c_seq ?_
  refine c_sreg rfl ?_
  refine s1 (r_mvs rfl) ?_
  refine s1 (r_len rfl) ?_
  refine s1 (r_mvs rfl) ?_
  refine s1 (r_len rfl) ?_
  refine s1 (r_ne rfl rfl) ?_
  refine wn ?_
  refine c_cond rfl (fun h => ?_) (fun h => (c_skip (t_n ?_)))
  · refine c_sreg rfl ?_
    refine s1 (r_asb rfl) ?_
    refine wn ?_
    refine c_ret (ret1 rfl rfl ⟨congrArg Value.bool ?_, mm.chg⟩)
    refine (decide_eq_false fun hq => ?_).symm
    rw [hq] at h
    simp at h
  have hlen : l.length = l'.length := by simp at h; omega
  clear h
  refine c_seq ?_
  refine c_sreg rfl ?_
  refine s1 (r_asi rfl) ?_
  refine wn ?_
  refine c_block ?_
  refine c_loop (fun k e w' => ∃ i, k + i = l.length ∧ e 0 = .slice a l.length c ∧ e 1 = .slice a' l'.length c' ∧ e 5 = .int .i64 (i : Nat) ∧ Mem w No w' [] ∧ l.take i = l'.take i) l.length ?_ ?_
  · exact ⟨0, rfl, rfl, rfl, rfl, mm, rfl⟩
  clear mm
  rintro k e w9 ⟨i, hki, h0, h1, h5, mm, hall⟩
  refine c_seq ?_
  refine c_sreg rfl ?_
  refine s1 (r_mvi h5) ?_
  refine s1 (r_mvs h0) ?_
  refine s1 (r_len rfl) ?_
  refine s1 (r_lt rfl rfl) ?_
  refine wn ?_
  refine c_cond rfl (fun h => (c_skip (t_n ?_))) (fun h => (c_exit (t_x (t_x (b_x (t_n ?_))))))
  · have hi : i < l.length := by simp at h; omega
    clear h
    have hi' : i < l'.length := by omega
    refine c_seq ?_
    refine c_block ?_
    refine c_sdraw mixed [(0, true), (1, true), (2, true), (3, true), (4, true), (5, true), (6, true), (7, true), (8, true)] [true, true, true, true, true, true, true, true, true] (Sof mm) (by kernel_rfl) rfl rfl (by kernel_rfl) (fun w2 hc => ?_)
    have mm := mm.frame hc
    refine p1 rfl (fun w m => r_mvs h0) mm ?_
    refine p1 rfl (fun w m => r_mvi h5) mm ?_
    refine p1 rfl (fun w m => r_ix rfl rfl (by omega) (by omega) (evs_some H hi)) mm ?_
    refine p1 rfl (fun w m => r_ldce rfl (m.ro H) (seg_evs l i hi) (evs_le l i hi) (by decide)) mm ?_
    refine p1 rfl (fun w m => r_mvs h1) mm ?_
    refine p1 rfl (fun w m => r_mvi h5) mm ?_
    refine p1 rfl (fun w m => r_ix rfl rfl (by omega) (by omega) (evs_some H' hi')) mm ?_
    refine p1 rfl (fun w m => r_ldce rfl (m.ro H') (seg_evs l' i hi') (evs_le l' i hi') (by decide)) mm ?_
    refine p1 rfl (fun w m => r_nea ev_guard (ev_eq _ _ (hl _ (List.getElem_mem hi)) (hm _ (List.getElem_mem hi'))) rfl rfl) mm ?_
    refine pn ?_
    refine c_cond rfl (fun h => ?_) (fun h => (c_skip (b_n (t_n ?_))))
    · refine c_sreg rfl ?_
      refine s1 (r_asb rfl) ?_
      refine wn ?_
      refine c_ret (ret1 rfl rfl ⟨congrArg Value.bool ?_, mm.chg⟩)
      refine (decide_eq_false fun hq => ?_).symm
      subst hq
      simp at h
    have he : l[i] = l'[i] := by simpa using h
    refine c_region rfl ?_
    refine s1 (r_mvi h5) ?_
    refine s1 (r_add rfl rfl (wi (by omega) (by omega))) ?_
    refine s1 (r_asi rfl) ?_
    refine wn (t_n ?_)
    refine ⟨k - 1, by omega, i + 1, by omega, h0, h1, rfl, mm, ?_⟩
    rw [List.take_succ_eq_append_getElem hi, List.take_succ_eq_append_getElem hi', hall, he]
  · have hi : i = l.length := by simp at h; omega
    subst hi
    refine c_sreg rfl ?_
    refine s1 (r_asb rfl) ?_
    refine wn ?_
    refine c_ret (ret1 rfl rfl ⟨congrArg Value.bool ?_, mm.chg⟩)
    refine (decide_eq_true ?_).symm
    rw [List.take_length, hlen, List.take_length] at hall
    exact hall

/-- A slice of records, and their events. -/
def Slr (w : World) (v : Value) (l : List RecM) : Prop := ∃ a c, v = .slice a l.length c ∧ Cells w a (rmsC l) ∧ ∀ m ∈ l, Cells w m.2.1 (evsC m.1.es)
structure RecW (x : Rec) : Prop where
  c : ClkW x.c
  es : ∀ y ∈ x.es, EvW y
  len : x.es.length ≤ 1000000000000000
theorem recW_of {x : Rec} (ok : RecOk x) : RecW x := ⟨clkW_of fun i hi => by have := ok.c i hi; exact ⟨by omega, by omega⟩, fun y hy => evW_of (evMay_ok (ok.es y hy)), by have := ok.most; omega⟩
theorem rec_ext {x y : Rec} (h1 : x.kind = y.kind) (h2 : x.r = y.r) (h3 : x.upto = y.upto) (h4 : x.c = y.c) (h5 : x.es = y.es) : x = y := by cases x; cases y; simp_all
theorem c_same18 (l l' : List RecM) (hl : ∀ y ∈ l, RecW y.1) (hm : ∀ y ∈ l', RecW y.1) (hll : l.length ≤ 1000000000000000) (v u : Value) (w : World) (hs : Slr w v l) (ht : Slr w u l') : Cl Try.prog 41 #[v, u] w (fun r w' => r = .bool (decide (l.map (·.1) = l'.map (·.1))) ∧ Chg No w w') := by
  obtain ⟨a, c, rfl, H, He⟩ := hs
  obtain ⟨a', c', rfl, H', He'⟩ := ht
  refine f_enter (args := [_, _]) Try.func41 rfl rfl ?_
  have mm := Mem.nil No w
  refine c_sreg rfl ?_
  refine s1 (r_asb rfl) ?_
  refine wn ?_
  refine c_seq ?_
  refine c_sreg rfl ?_
  refine s1 (r_mvs rfl) ?_
  refine s1 (r_len rfl) ?_
  refine s1 (r_mvs rfl) ?_
  refine s1 (r_len rfl) ?_
  refine s1 (r_ne rfl rfl) ?_
  refine wn ?_
  refine c_cond rfl (fun h => ?_) (fun h => (c_skip (t_n ?_)))
  · refine c_sreg rfl ?_
    refine s1 (r_asb rfl) ?_
    refine wn ?_
    refine c_ret (ret1 rfl rfl ⟨congrArg Value.bool ?_, mm.chg⟩)
    refine (decide_eq_false fun hq => ?_).symm
    have := congrArg List.length hq
    rw [List.length_map, List.length_map] at this
    rw [this] at h
    simp at h
  have hlen : l.length = l'.length := by simp at h; omega
  clear h
  refine c_seq ?_
  refine c_sreg rfl ?_
  refine s1 (r_asi rfl) ?_
  refine wn ?_
  refine c_block ?_
  refine c_loop (fun k e w' => ∃ i, k + i = l.length ∧ e 0 = .slice a l.length c ∧ e 1 = .slice a' l'.length c' ∧ e 5 = .int .i64 (i : Nat) ∧ Mem w No w' [] ∧ (l.map (·.1)).take i = (l'.map (·.1)).take i) l.length ?_ ?_
  · exact ⟨0, rfl, rfl, rfl, rfl, mm, rfl⟩
  clear mm
  rintro k e w9 ⟨i, hki, h0, h1, h5, mm, hall⟩
  refine c_seq ?_
  refine c_sreg rfl ?_
  refine s1 (r_mvi h5) ?_
  refine s1 (r_mvs h0) ?_
  refine s1 (r_len rfl) ?_
  refine s1 (r_lt rfl rfl) ?_
  refine wn ?_
  refine c_cond rfl (fun h => (c_skip (t_n ?_))) (fun h => (c_exit (t_x (t_x (b_x (t_n ?_))))))
  · have hi : i < l.length := by simp at h; omega
    clear h
    have hi' : i < l'.length := by omega
    have wx := hl _ (List.getElem_mem hi)
    have wy := hm _ (List.getElem_mem hi')
    have n4 : nth (rmsC l) (((i : Nat) : Int).toNat * 9 + 8) = some (.slice l[i].2.1 l[i].1.es.length l[i].2.2) := rms_nth l i hi 8 (by decide)
    have n4' : nth (rmsC l') (((i : Nat) : Int).toNat * 9 + 8) = some (.slice l'[i].2.1 l'[i].1.es.length l'[i].2.2) := rms_nth l' i hi' 8 (by decide)
    have n0 : nth (rmsC l) (((i : Nat) : Int).toNat * 9 + 0) = some (.int .i64 l[i].1.kind) := rms_nth l i hi 0 (by decide)
    have n0' : nth (rmsC l') (((i : Nat) : Int).toNat * 9 + 0) = some (.int .i64 l'[i].1.kind) := rms_nth l' i hi' 0 (by decide)
    have n1 : nth (rmsC l) (((i : Nat) : Int).toNat * 9 + 1) = some (.int .i64 l[i].1.r) := rms_nth l i hi 1 (by decide)
    have n1' : nth (rmsC l') (((i : Nat) : Int).toNat * 9 + 1) = some (.int .i64 l'[i].1.r) := rms_nth l' i hi' 1 (by decide)
    have n2 : nth (rmsC l) (((i : Nat) : Int).toNat * 9 + 2) = some (.int .i64 l[i].1.upto) := rms_nth l i hi 2 (by decide)
    have n2' : nth (rmsC l') (((i : Nat) : Int).toNat * 9 + 2) = some (.int .i64 l'[i].1.upto) := rms_nth l' i hi' 2 (by decide)
    have sm1 := rms_some H hi
    have sm2 := rms_some H' hi'
    have he := He _ (List.getElem_mem hi)
    have he' := He' _ (List.getElem_mem hi')
    refine c_seq ?_
    refine c_block ?_
    refine c_sdraw2 mixed [(0, some 0), (1, some 0), (2, some 0), (3, some 0), (5, some 0), (6, some 0), (7, some 0), (8, some 0), (4, some 2), (9, some 2), (10, none), (11, some 0)] [0, 0, 0, 0, 0, 0, 0, 0, 0, 2, 0, 0] (Sof mm) (Sof mm) (fun _ h => h) (by kernel_rfl) rfl rfl (by kernel_rfl) (fun w2 hc => ?_)
    have mm := mm.frame hc
    refine q01 rfl (fun w => r_mvs h0) ?_
    refine q01 rfl (fun w => r_mvi h5) ?_
    refine q01 rfl (fun w => r_ix rfl rfl (by omega) (by omega) sm1) ?_
    refine q01 rfl (fun w => r_fac rfl sm1) ?_
    refine q01 rfl (fun w => r_mvs h1) ?_
    refine q01 rfl (fun w => r_mvi h5) ?_
    refine q01 rfl (fun w => r_ix rfl rfl (by omega) (by omega) sm2) ?_
    refine q01 rfl (fun w => r_fac rfl sm2) ?_
    refine qA1 rfl (fun w m => r_ldc rfl (m.ro H) n4) mm ?_
    refine qA1 rfl (fun w m => r_ldc rfl (m.ro H') n4') mm ?_
    refine qo rfl (o_c2 rfl rfl (c_same6 l[i].1.es l'[i].1.es wx.es wy.es wx.len _ _ _ ⟨_, _, rfl, mm.ro he⟩ ⟨_, _, rfl, mm.ro he'⟩) ?_)
    rintro _ w3 ⟨rfl, hc⟩
    have mm := mm.frame hc
    refine ⟨trivial, ?_⟩
    refine q01 rfl (fun w => r_asb rfl) ?_
    refine qn ?_
    refine c_sdraw2 mixed [(0, some 0), (1, some 0), (2, some 0), (3, some 0), (4, some 0), (5, some 0), (6, some 0), (8, some 0), (9, some 0), (10, some 0), (11, some 0), (7, some 2), (12, some 2), (13, some 0), (14, some 0), (15, some 0), (16, some 0), (17, some 0), (18, some 0), (19, some 0), (21, some 0), (22, some 0), (23, some 0), (24, some 0), (20, some 2), (25, some 2), (26, some 0), (27, some 0), (28, some 0), (29, some 0), (30, some 0), (31, some 0), (32, some 0), (34, some 0), (35, some 0), (36, some 0), (37, some 0), (33, some 2), (38, some 2), (39, some 0), (40, some 0), (41, some 0), (42, some 0), (43, some 0), (44, some 0), (45, some 0), (47, some 0), (48, some 0), (49, some 0), (50, some 0), (46, some 2), (51, some 2), (52, some 0), (53, some 0)] [0, 0, 0, 0, 0, 0, 0, 0, 0, 0, 0, 0, 2, 0, 0, 0, 0, 0, 0, 0, 0, 0, 0, 0, 0, 2, 0, 0, 0, 0, 0, 0, 0, 0, 0, 0, 0, 0, 2, 0, 0, 0, 0, 0, 0, 0, 0, 0, 0, 0, 0, 2, 0, 0] (Sof mm) (Sof mm) (fun _ h => h) (by kernel_rfl) rfl rfl (by kernel_rfl) (fun w4 hc => ?_)
    have mm := mm.frame hc
    refine q01 rfl (fun w => r_mvb rfl) ?_
    refine q01 rfl (fun w => r_not rfl) ?_
    refine q01 rfl (fun w => r_mvb rfl) ?_
    refine q0F rfl rfl rfl (fun h w => r_mvs h0) ?_
    refine q0F rfl rfl rfl (fun h w => r_mvi h5) ?_
    refine q0F rfl rfl rfl (fun h w => r_ix (sel_t h :) (sel_t h :) (by omega) (by omega) sm1) ?_
    refine q0F rfl rfl rfl (fun h w => r_fac (sel_t h :) sm1) ?_
    refine q0F rfl rfl rfl (fun h w => r_mvs h1) ?_
    refine q0F rfl rfl rfl (fun h w => r_mvi h5) ?_
    refine q0F rfl rfl rfl (fun h w => r_ix (sel_t h :) (sel_t h :) (by omega) (by omega) sm2) ?_
    refine q0F rfl rfl rfl (fun h w => r_fac (sel_t h :) sm2) ?_
    refine qAF rfl rfl rfl (fun h w m => r_ldc (sel_t h :) (m.ro H) n0) mm ?_
    refine qAF rfl rfl rfl (fun h w m => r_ldc (sel_t h :) (m.ro H') n0') mm ?_
    refine q0F rfl rfl rfl (fun h w => r_ne (sel_t h :) (sel_t h :)) ?_
    refine q01 rfl (fun w => r_or rfl rfl) ?_
    refine q01 rfl (fun w => r_mvb rfl) ?_
    refine q0F rfl rfl rfl (fun h w => r_mvs h0) ?_
    refine q0F rfl rfl rfl (fun h w => r_mvi h5) ?_
    refine q0F rfl rfl rfl (fun h w => r_ix (sel_t h :) (sel_t h :) (by omega) (by omega) sm1) ?_
    refine q0F rfl rfl rfl (fun h w => r_fac (sel_t h :) sm1) ?_
    refine q0F rfl rfl rfl (fun h w => r_mvs h1) ?_
    refine q0F rfl rfl rfl (fun h w => r_mvi h5) ?_
    refine q0F rfl rfl rfl (fun h w => r_ix (sel_t h :) (sel_t h :) (by omega) (by omega) sm2) ?_
    refine q0F rfl rfl rfl (fun h w => r_fac (sel_t h :) sm2) ?_
    refine qAF rfl rfl rfl (fun h w m => r_ldc (sel_t h :) (m.ro H) n1) mm ?_
    refine qAF rfl rfl rfl (fun h w m => r_ldc (sel_t h :) (m.ro H') n1') mm ?_
    refine q0F rfl rfl rfl (fun h w => r_ne (sel_t h :) (sel_t h :)) ?_
    refine q01 rfl (fun w => r_or rfl rfl) ?_
    refine q01 rfl (fun w => r_mvb rfl) ?_
    refine q0F rfl rfl rfl (fun h w => r_mvs h0) ?_
    refine q0F rfl rfl rfl (fun h w => r_mvi h5) ?_
    refine q0F rfl rfl rfl (fun h w => r_ix (sel_t h :) (sel_t h :) (by omega) (by omega) sm1) ?_
    refine q0F rfl rfl rfl (fun h w => r_fac (sel_t h :) sm1) ?_
    refine q0F rfl rfl rfl (fun h w => r_mvs h1) ?_
    refine q0F rfl rfl rfl (fun h w => r_mvi h5) ?_
    refine q0F rfl rfl rfl (fun h w => r_ix (sel_t h :) (sel_t h :) (by omega) (by omega) sm2) ?_
    refine q0F rfl rfl rfl (fun h w => r_fac (sel_t h :) sm2) ?_
    refine qAF rfl rfl rfl (fun h w m => r_ldc (sel_t h :) (m.ro H) n2) mm ?_
    refine qAF rfl rfl rfl (fun h w m => r_ldc (sel_t h :) (m.ro H') n2') mm ?_
    refine q0F rfl rfl rfl (fun h w => r_ne (sel_t h :) (sel_t h :)) ?_
    refine q01 rfl (fun w => r_or rfl rfl) ?_
    refine q01 rfl (fun w => r_mvb rfl) ?_
    refine q0F rfl rfl rfl (fun h w => r_mvs h0) ?_
    refine q0F rfl rfl rfl (fun h w => r_mvi h5) ?_
    refine q0F rfl rfl rfl (fun h w => r_ix (sel_t h :) (sel_t h :) (by omega) (by omega) sm1) ?_
    refine q0F rfl rfl rfl (fun h w => r_fac (sel_t h :) sm1) ?_
    refine q0F rfl rfl rfl (fun h w => r_mvs h1) ?_
    refine q0F rfl rfl rfl (fun h w => r_mvi h5) ?_
    refine q0F rfl rfl rfl (fun h w => r_ix (sel_t h :) (sel_t h :) (by omega) (by omega) sm2) ?_
    refine q0F rfl rfl rfl (fun h w => r_fac (sel_t h :) sm2) ?_
    refine qAF rfl rfl rfl (fun h w m => r_ldce (sel_t h :) (m.ro H) (rms_seg3 l i hi) (rms_le3 l i hi) (by decide)) mm ?_
    refine qAF rfl rfl rfl (fun h w m => r_ldce (sel_t h :) (m.ro H') (rms_seg3 l' i hi') (rms_le3 l' i hi') (by decide)) mm ?_
    refine q0F rfl rfl rfl (fun h w => r_nea clk_guard (clk_eq _ _ wx.c wy.c) (sel_t h :) (sel_t h :)) ?_
    refine q01 rfl (fun w => r_or rfl rfl) ?_
    refine qn ?_
    refine c_cond rfl (fun h => ?_) (fun h => (c_skip (b_n (t_n ?_))))
    · refine c_sreg rfl ?_
      refine s1 (r_asb rfl) ?_
      refine wn ?_
      refine c_ret (ret1 rfl rfl ⟨congrArg Value.bool ?_, mm.chg⟩)
      refine (decide_eq_false fun hq => ?_).symm
      have hq2 := congrArg (fun z => z[i]?) hq
      simp only [List.getElem?_map, List.getElem?_eq_getElem hi, List.getElem?_eq_getElem hi', Option.map_some, Option.some.injEq] at hq2
      rw [hq2] at h
      simp at h
    have hx : l[i].1 = l'[i].1 := by
      simp at h
      exact rec_ext (by omega) (by omega) (by omega) h.2 (by simp [h])
    refine c_region rfl ?_
    refine s1 (r_mvi h5) ?_
    refine s1 (r_add rfl rfl (wi (by omega) (by omega))) ?_
    refine s1 (r_asi rfl) ?_
    refine wn (t_n ?_)
    refine ⟨k - 1, by omega, i + 1, by omega, h0, h1, rfl, mm, ?_⟩
    rw [List.take_succ_eq_append_getElem (by rw [List.length_map]; exact hi), List.take_succ_eq_append_getElem (by rw [List.length_map]; exact hi'), hall, List.getElem_map, List.getElem_map, hx]
  · have hi : i = l.length := by simp at h; omega
    subst hi
    refine c_sreg rfl ?_
    refine s1 (r_asb rfl) ?_
    refine wn ?_
    refine c_ret (ret1 rfl rfl ⟨congrArg Value.bool ?_, mm.chg⟩)
    refine (decide_eq_true ?_).symm
    rw [List.take_of_length_le (by rw [List.length_map]; exact Nat.le_refl _), List.take_of_length_le (by rw [List.length_map]; omega)] at hall
    exact hall
end Go.Proofs.Ytgdbbaggkoillaa

