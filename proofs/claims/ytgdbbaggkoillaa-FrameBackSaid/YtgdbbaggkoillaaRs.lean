/- kithref06.Same: the walk. -/
import Derived.Test.YtgdbbaggkoillaaTs
import Derived.Test.YtgdbbaggkoillaaRc
import Derived.Test.YtgdbbaggkoillaaKp
namespace Go.Proofs.Ytgdbbaggkoillaa
open K
set_option maxRecDepth 100000
set_option maxHeartbeats 4000000

def Sle (w : World) (v : Value) (l : List Ev) : Prop := ∃ a c, v = .slice a l.length c ∧ Cells w a (evsC l)
theorem c_same6 (l l' : List Ev) (hl : ∀ y ∈ l, EvW y) (hm : ∀ y ∈ l', EvW y) (hll : l.length ≤ 1000000000000000) (v u : Value) (w : World) (hs : Sle w v l) (ht : Sle w u l') : Cl Try.prog 72 #[v, u] w (fun r w' => r = .bool (decide (l = l')) ∧ Chg No w w') := by
  obtain ⟨a, c, rfl, H⟩ := hs
  obtain ⟨a', c', rfl, H'⟩ := ht
  refine f_enter (args := [_, _]) Try.func72 rfl rfl ?_
  have mm := Mem.nil No w
  refine c_sreg rfl ?_
  refine s1 (r_asb rfl) ?_
  refine wn ?_
  refine c_seq ?_
  refine c_sreg rfl ?_
  refine s1 (r_mvs rfl) ?_
  refine s1 (r_len rfl) ?_
  refine s1 (r_mvs rfl) ?_
  refine s1 (r_len rfl) ?_
  refine s1 (r_ne rfl rfl) ?_
  refine wn ?_
  refine c_cond rfl (fun h => ?_) (fun h => (c_skip (t_n ?_)))
  · refine c_sreg rfl ?_
    refine s1 (r_asb rfl) ?_
    refine wn ?_
    refine c_ret (ret1 rfl rfl ⟨congrArg Value.bool ?_, mm.chg⟩)
    refine (decide_eq_false fun hq => ?_).symm
    rw [hq] at h
    simp at h
  have hlen : l.length = l'.length := by simp at h; omega
  clear h
  refine c_seq ?_
  refine c_sreg rfl ?_
  refine s1 (r_asi rfl) ?_
  refine wn ?_
  refine c_block ?_
  refine c_loop (fun k e w' => ∃ i, k + i = l.length ∧ e 0 = .slice a l.length c ∧ e 1 = .slice a' l'.length c' ∧ e 5 = .int .i64 (i : Nat) ∧ Mem w No w' [] ∧ l.take i = l'.take i) l.length ?_ ?_
  · exact ⟨0, rfl, rfl, rfl, rfl, mm, rfl⟩
  clear mm
  rintro k e w9 ⟨i, hki, h0, h1, h5, mm, hall⟩
  refine c_seq ?_
  refine c_sreg rfl ?_
  refine s1 (r_mvi h5) ?_
  refine s1 (r_mvs h0) ?_
  refine s1 (r_len rfl) ?_
  refine s1 (r_lt rfl rfl) ?_
  refine wn ?_
  refine c_cond rfl (fun h => (c_skip (t_n ?_))) (fun h => (c_exit (t_x (t_x (b_x (t_n ?_))))))
  · have hi : i < l.length := by simp at h; omega
    clear h
    have hi' : i < l'.length := by omega
    refine c_seq ?_
    refine c_block ?_
    refine c_sdraw mixed [(0, true), (1, true), (2, true), (3, true), (4, true), (5, true), (6, true), (7, true), (8, true)] [true, true, true, true, true, true, true, true, true] (Sof mm) (by kernel_rfl) rfl rfl (by kernel_rfl) (fun w2 hc => ?_)
    have mm := mm.frame hc
    refine p1 rfl (fun w m => r_mvs h0) mm ?_
    refine p1 rfl (fun w m => r_mvi h5) mm ?_
    refine p1 rfl (fun w m => r_ix rfl rfl (by omega) (by omega) (evs_some H hi)) mm ?_
    refine p1 rfl (fun w m => r_ldce rfl (m.ro H) (seg_evs l i hi) (evs_le l i hi) (by decide)) mm ?_
    refine p1 rfl (fun w m => r_mvs h1) mm ?_
    refine p1 rfl (fun w m => r_mvi h5) mm ?_
    refine p1 rfl (fun w m => r_ix rfl rfl (by omega) (by omega) (evs_some H' hi')) mm ?_
    refine p1 rfl (fun w m => r_ldce rfl (m.ro H') (seg_evs l' i hi') (evs_le l' i hi') (by decide)) mm ?_
    refine p1 rfl (fun w m => r_nea ev_guard (ev_eq _ _ (hl _ (List.getElem_mem hi)) (hm _ (List.getElem_mem hi'))) rfl rfl) mm ?_
    refine pn ?_
    refine c_cond rfl (fun h => ?_) (fun h => (c_skip (b_n (t_n ?_))))
    · refine c_sreg rfl ?_
      refine s1 (r_asb rfl) ?_
      refine wn ?_
      refine c_ret (ret1 rfl rfl ⟨congrArg Value.bool ?_, mm.chg⟩)
      refine (decide_eq_false fun hq => ?_).symm
      subst hq
      simp at h
    have he : l[i] = l'[i] := by simpa using h
    refine c_region rfl ?_
    refine s1 (r_mvi h5) ?_
    refine s1 (r_add rfl rfl (wi (by omega) (by omega))) ?_
    refine s1 (r_asi rfl) ?_
    refine wn (t_n ?_)
    refine ⟨k - 1, by omega, i + 1, by omega, h0, h1, rfl, mm, ?_⟩
    rw [List.take_succ_eq_append_getElem hi, List.take_succ_eq_append_getElem hi', hall, he]
  · have hi : i = l.length := by simp at h; omega
    subst hi
    refine c_sreg rfl ?_
    refine s1 (r_asb rfl) ?_
    refine wn ?_
    refine c_ret (ret1 rfl rfl ⟨congrArg Value.bool ?_, mm.chg⟩)
    refine (decide_eq_true ?_).symm
    rw [List.take_length, hlen, List.take_length] at hall
    exact hall

structure RecW (x : Rec) : Prop where
  c : ClkW x.c
  es : ∀ y ∈ x.es, EvW y
  len : x.es.length ≤ 1000000000000000
theorem rec_ext {x y : Rec} (h1 : x.kind = y.kind) (h2 : x.r = y.r) (h3 : x.upto = y.upto) (h4 : x.c = y.c) (h5 : x.es = y.es) : x = y := by cases x; cases y; simp_all
end Go.Proofs.Ytgdbbaggkoillaa

