/- kithref06.Fit: walk. -/
import Derived.Test.YtgdbbaggkoillaaEy
import Derived.Test.YtgdbbaggkoillaaLe
namespace Go.Proofs.Ytgdbbaggkoillaa
open K
set_option maxRecDepth 100000
set_option maxHeartbeats 4000000

theorem nth_evi (x : Ev) (i : Nat) (h : i < 5) : nth (evC x) (0 + 2 + (i : Int).toNat * 1) = some (.int .i64 (x.c.get i)) := by
  match i, h with
  | 0, _ => rfl | 1, _ => rfl | 2, _ => rfl | 3, _ => rfl | 4, _ => rfl
theorem blt_evi (x : Ev) (i : Nat) (h : i < 5) : Nat.blt (0 + 2 + (i : Int).toNat * 1) (evC x).length = true := by
  match i, h with
  | 0, _ => rfl | 1, _ => rfl | 2, _ => rfl | 3, _ => rfl | 4, _ => rfl
theorem setN_evi (x : Ev) (i : Nat) (h : i < 5) (v : Int) : setN (evC x) (0 + 2 + (i : Int).toNat * 1) (.int .i64 v) = evC { x with c := x.c.set i v } := by
  match i, h with
  | 0, _ => rfl | 1, _ => rfl | 2, _ => rfl | 3, _ => rfl | 4, _ => rfl
theorem nth_evr (x : Ev) (r : Int) (h0 : 0 ≤ r) (h : r < 5) : nth (evC x) (0 + 2 + r.toNat * 1) = some (.int .i64 (x.c.get r.toNat)) := by
  obtain ⟨i, rfl⟩ := Int.eq_ofNat_of_zero_le h0
  exact nth_evi x i (by omega)
theorem blt_evr (x : Ev) (r : Int) (h0 : 0 ≤ r) (h : r < 5) : Nat.blt (0 + 2 + r.toNat * 1) (evC x).length = true := by
  obtain ⟨i, rfl⟩ := Int.eq_ofNat_of_zero_le h0
  exact blt_evi x i (by omega)
theorem setN_evr (x : Ev) (r : Int) (h0 : 0 ≤ r) (h : r < 5) (v : Int) : setN (evC x) (0 + 2 + r.toNat * 1) (.int .i64 v) = evC { x with c := x.c.set r.toNat v } := by
  obtain ⟨i, rfl⟩ := Int.eq_ofNat_of_zero_le h0
  exact setN_evi x i (by omega) v
def ev0 : Ev := ⟨0, 0, clk0, 0, 0, [], 0, []⟩
theorem K.Mem.castb {w0 w : World} {F0 : Nat → Prop} {I J K : It} {b : Nat} {cs cs' : List Value} {T : TypeId} (h : Mem w0 F0 w [I, J, K, bk b cs T]) (hc : cs = cs') : Mem w0 F0 w [I, J, K, bk b cs' T] := by subst hc; exact h

theorem c_fit6 (x : Ev) (hx : EvIn x) (w : World) : Cl Try.prog 19 #[.agg (evC x).toArray] w (fun v w' => v = .agg (evC (fitEv x)).toArray ∧ Chg No w w') := by
  have hn : 0 ≤ bitv .and .i64 x.n 1048575 ∧ bitv .and .i64 x.n 1048575 ≤ 1048575 := m20_in x.n
  have hh : 0 ≤ bitv .and .i64 x.h 16777215 ∧ bitv .and .i64 x.h 16777215 ≤ 16777215 := m24_in x.h
  have hq := tmod_in x.r 5 (by decide)
  refine f_enter (args := [_]) Try.func19 rfl rfl ?_
  have mm := Mem.nil No w
  refine c_sreg rfl ?_
  refine so (o_bxa mm rfl fun b2 w2 mm => ?_)
  refine so (o_al mm fun b3 w3 mm => ?_)
  refine wn ?_
  refine c_sreg rfl ?_
  refine s1 (r_lda rfl (mm.b 0 rfl) rfl) ?_
  refine so (o_c1 rfl (c_edit6 x _) ?_)
  rintro _ w4 ⟨rfl, hc⟩
  have mm := mm.frame hc
  refine so (o_c1 rfl (c_fit5 x.ed hx.key hx.val _) ?_)
  rintro _ w5 ⟨rfl, hc⟩
  have mm := mm.frame hc
  refine so (o_al mm fun b6 w6 mm => ?_)
  refine ss (o_sta mm 2 rfl rfl rfl rfl rfl (Nat.le_of_ble_eq_true rfl) fun w7 mm => ?_)
  refine wn ?_
  refine c_sreg rfl ?_
  refine s1 (r_fa rfl) ?_
  refine s1 (r_ld rfl (mm.b 0 rfl) rfl) ?_
  refine s1 (r_rem rfl rfl (by decide) rfl) ?_
  refine s1 (r_add rfl rfl (wi (by omega) (by omega))) ?_
  refine s1 (r_rem rfl rfl (by decide) rfl) ?_
  refine s1 (r_fa rfl) ?_
  refine s1 (r_ld rfl (mm.b 0 rfl) rfl) ?_
  refine s1 (r_band rfl rfl rfl) ?_
  refine s1 (r_add rfl rfl (wi (by omega) (by omega))) ?_
  refine s1 (r_fa rfl) ?_
  refine s1 (r_ld rfl (mm.b 0 rfl) rfl) ?_
  refine s1 (r_band rfl rfl rfl) ?_
  refine s1 (r_add rfl rfl (wi (by omega) (by omega))) ?_
  refine s1 (r_fa rfl) ?_
  refine s1 (r_ld rfl (mm.b 2 rfl) rfl) ?_
  refine s1 (r_fa rfl) ?_
  refine s1 (r_ld rfl (mm.b 2 rfl) rfl) ?_
  refine s1 (r_fa rfl) ?_
  refine s1 (r_ld rfl (mm.b 2 rfl) rfl) ?_
  refine s1 (r_fa rfl) ?_
  refine s1 (r_ld rfl (mm.b 2 rfl) rfl) ?_
  refine s1 (r_bd (bi rfl (bi rfl (bi rfl (bi rfl (bt rfl (bi rfl (bt rfl bN))))))) rfl) ?_
  refine so (o_al mm fun b8 w8 mm => ?_)
  refine ss (o_sta mm 3 rfl rfl rfl rfl rfl (Nat.le_of_ble_eq_true rfl) fun w9 mm => ?_)
  refine wn ?_
  have mm : Mem w No w9 [bk b2 (evC x) 25, bk b3 (evC ev0) 25, bk b6 (edC (fitEd x.ed)) 73, bk b8 (evC ⟨fitR x.r, 1 + m20 x.n, clk0, 1 + m24 x.h, (fitEd x.ed).kind, (fitEd x.ed).key, (fitEd x.ed).label, (fitEd x.ed).val⟩) 25] := mm
  refine c_seq ?_
  refine c_sreg rfl ?_
  refine s1 (r_asi rfl) ?_
  refine wn ?_
  refine c_block ?_
  refine c_loop (fun k e w' => ∃ (i : Nat) (c : Clk), k + i = 5 ∧ e 1 = .pointer (some ⟨b2, 0, none⟩) ∧ e 2 = .pointer (some ⟨b3, 0, none⟩) ∧ e 4 = .pointer (some ⟨b8, 0, none⟩) ∧ e 5 = .int .i64 i ∧ Mem w No w' [bk b2 (evC x) 25, bk b3 (evC ev0) 25, bk b6 (edC (fitEd x.ed)) 73, bk b8 (evC ⟨fitR x.r, 1 + m20 x.n, c, 1 + m24 x.h, (fitEd x.ed).kind, (fitEd x.ed).key, (fitEd x.ed).label, (fitEd x.ed).val⟩) 25] ∧ ∀ j, j < i → j < 5 → c.get j = m20 (x.c.get j)) 5 ?_ ?_
  · exact ⟨0, clk0, rfl, rfl, rfl, rfl, rfl, mm, fun j hj => absurd hj (by omega)⟩
  rintro k e w' ⟨i, c, hki, h1, h2, h4, h5, mm, hc⟩
  refine c_seq ?_
  refine c_sreg rfl ?_
  refine s1 (r_mvi h5) ?_
  refine s1 (r_lt rfl rfl) ?_
  refine wn ?_
  refine c_cond rfl (fun h => (c_skip (t_n ?_))) (fun h => (c_exit (t_x (t_x (b_x (t_n ?_))))))
  · have hi : i < 5 := by simp at h; omega
    clear h
    refine c_seq ?_
    refine c_block ?_
    refine c_region rfl ?_
    refine s1 (r_mvi h5) ?_
    refine s1 (r_mvi h5) ?_
    refine s1 (r_fa h1) ?_
    refine s1 (r_ixa rfl rfl (by omega) (by omega)) ?_
    refine s1 (r_ld rfl (mm.b 0 rfl) (nth_evi x i hi)) ?_
    refine s1 (r_band rfl rfl rfl) ?_
    refine s1 (r_fa h4) ?_
    refine s1 (r_ixa rfl rfl (by omega) (by omega)) ?_
    refine ss (o_st mm 3 rfl rfl rfl rfl (blt_evi _ i hi) fun w10 mm => ?_)
    refine wn (b_n (t_n ?_))
    have mm := mm.castb (setN_evi _ i hi _)
    refine c_region rfl ?_
    refine s1 (r_mvi h5) ?_
    refine s1 (r_add rfl rfl (wi (by omega) (by omega))) ?_
    refine s1 (r_asi rfl) ?_
    refine wn (t_n ?_)
    refine ⟨k - 1, by omega, i + 1, _, by omega, h1, h2, h4, rfl, mm, ?_⟩
    intro j hj hj5
    show (c.set i (m20 (x.c.get i))).get j = _
    rw [Clk.get_set _ _ _ hi hj5]
    by_cases hij : i = j
    · rw [if_pos hij, hij]
    · rw [if_neg hij]; exact hc j (by omega) hj5
  have hi : i = 5 := by simp at h; omega
  subst hi
  have hcc : c = fitC x.c := Clk.ext' fun j hj => by rw [hc j hj hj, fitC_get]
  subst hcc
  clear h5 h hc
  have hr := fitR_in x.r
  refine c_sreg rfl ?_
  refine s1 (r_fa h4) ?_
  refine s1 (r_ld rfl (mm.b 3 rfl) rfl) ?_
  refine s1 (r_fa h4) ?_
  refine s1 (r_ld rfl (mm.b 3 rfl) rfl) ?_
  refine s1 (r_sub rfl rfl (show IntKind.i64.wrap (1 + m20 x.n - 1) = m20 x.n from by have := m20_in x.n; rw [wi (by omega) (by omega)]; omega)) ?_
  refine s1 (r_fa h4) ?_
  refine s1 (r_ixa rfl rfl (show 0 ≤ fitR x.r from hr.1) (show fitR x.r < 5 from hr.2)) ?_
  refine ss (o_st mm 3 rfl rfl rfl rfl (blt_evr _ _ hr.1 hr.2) fun w11 mm => ?_)
  refine wn ?_
  have mm := mm.castb (setN_evr _ _ hr.1 hr.2 _)
  refine c_sreg rfl ?_
  refine s1 (r_lda h4 (mm.b 3 rfl) rfl) ?_
  refine ss (o_sta mm 1 rfl h2 rfl rfl rfl (Nat.le_of_ble_eq_true rfl) fun w12 mm => ?_)
  refine wn ?_
  exact c_ret (retc rfl h2 (mm.b 1 rfl) rfl ⟨rfl, mm.chg⟩)
end Go.Proofs.Ytgdbbaggkoillaa

