/- event.Take: the walk. -/
import Derived.Test.YtbcpabfemejlgaaM9
import Derived.Test.YtbcpabfemejlgaaM14
import Derived.Test.YtbcpabfemejlgaaM11
import Derived.Test.YtbcpabfemejlgaaM7
import Derived.Test.YtbcpabfemejlgaaM8
import Derived.Test.YtbcpabfemejlgaaM5
namespace Go.Proofs.Ytbcpabfemejlgaa
open K
set_option maxRecDepth 100000
set_option maxHeartbeats 4000000

theorem retc3 {P : Program} {fn : Func} {R : Value → World → Prop} {e : Env} {w : World} {t t' t'' T T1 T' T1' b b' n : Nat} {cs : List Value} {v u : Value} [h' : Ag P T n] [h1 : Sc P T'] (h : fn.results.toList = [.cell t T, .tmp t', .cell t'' T']) (hv : e t = .pointer (some ⟨b, 0, none⟩)) (hb : w.heap[b]? = some (.cells cs.toArray T1 (0, 0))) (hn : cs.length = n) (hv' : e t' = v)
    (hv'' : e t'' = .pointer (some ⟨b', 0, none⟩)) (hb' : w.heap[b']? = some (.cells [u].toArray T1' (0, 0))) (hR : R (.tuple #[.agg cs.toArray, v, u]) w) : retE P fn R e w :=
  ⟨[.agg cs.toArray, v, u], by rw [h]; exact ⟨_, _, [v, u], hv, lv_row hb hn, rfl, [u], by rw [hv'], _, _, [], hv'', lv_one hb', rfl, rfl⟩, hR⟩

theorem r_fn4 {P : Program} {e : Env} {w : World} {d : Option Nat} {ty : Nat} {pos : String} {af : Array Edge} {g : Option (Nat × Bool)} {fn : Fn} {x y z t : Operand} {v u p q : Value} (hx : ev e x = v) (hy : ev e y = u) (hz : ev e z = p) (ht : ev e t = q) : (execOp (ev e) ⟨d, .makeFunc fn #[] #[x, y, z, t], ty, pos, af, g⟩).run P w = .ok (.value (.func fn #[] #[v, u, p, q])) w := by
  subst hx; subst hy; subst hz; subst ht; simp [execOp, Instr.makeFunc]

theorem K.Mem.castR {w0 w : World} {bR bE bL bF bO : Nat} {cs cs' : List Value} {e : Int} {v : Value} (h : Mem w0 No w (setN (tkL bR bE bL bF bO cs e v) 0 (bk bR cs' 67))) {cs'' : List Value} (hc : cs' = cs'') : Mem w0 No w (tkL bR bE bL bF bO cs'' e v) := by subst hc; exact h
theorem c_eTake (b : List UInt8) (hl : b.length ≤ 4611686018427387904) (v : Value) (w : World) (hs : Sl w v b) : Cl Try.prog 58 #[v] w (fun r w' => r = .tuple #[.agg (evC (takeE b).1).toArray, .int .i64 (takeE b).2.1, .int .i64 (takeE b).2.2] ∧ Chg No w w') := by
  have hs0 := hs
  obtain ⟨a, c, rfl, hac, H⟩ := hs
  refine f_enter (args := [_]) Try.func58 rfl rfl ?_
  have mm := Mem.nil No w
  refine c_sreg rfl ?_
  refine so (o_al mm fun b2 w2 mm => ?_)
  refine s1 (r_asi rfl) ?_
  refine so (o_al mm fun b3 w3 mm => ?_)
  refine wn ?_
  refine c_sreg rfl ?_
  refine s1 (r_mvs rfl) ?_
  refine so (o_al mm fun b4 w4 mm => ?_)
  refine ss (o_st mm 2 rfl rfl rfl rfl rfl fun w5 mm => ?_)
  refine wn ?_
  refine c_sreg rfl ?_
  refine s1 (r_fn1 rfl) ?_
  refine so (o_al mm fun b6 w6 mm => ?_)
  refine ss (o_st mm 3 rfl rfl rfl rfl rfl fun w7 mm => ?_)
  refine wn ?_
  refine c_sreg rfl ?_
  refine s1 (r_fn3 rfl rfl rfl) ?_
  refine so (o_al mm fun b8 w8 mm => ?_)
  refine ss (o_st mm 4 rfl rfl rfl rfl rfl fun w9 mm => ?_)
  refine wn ?_
  refine c_sreg rfl ?_
  refine s1 (r_fn3 rfl rfl rfl) ?_
  refine s1 (r_asf rfl) ?_
  refine wn ?_
  refine c_sreg rfl ?_
  refine s1 (r_fn4 rfl rfl rfl rfl) ?_
  refine s1 (r_asf rfl) ?_
  refine wn ?_
  have mm : Mem w No w9 (tkL b2 b3 b4 b6 b8 (evC evZ) 0 (.slice a b.length c)) := mm
  have E6 : b6 = b6 := rfl
  unfold takeE
  generalize htk : takeS b = T
  have hTb := htk
  unfold takeS at htk
  have l1 := @tOne_le 1 5 b 0
  generalize hq1 : tOne 1 5 b 0 = q1 at *
  obtain ⟨kd, u1, e1⟩ := q1
  dsimp only at htk l1
  have l2 := @tOne_le 0 4 u1 e1
  generalize hq2 : tOne 0 4 u1 e1 = q2 at *
  obtain ⟨r, u2, e2⟩ := q2
  dsimp only at htk l2
  refine c_sdraw mixed [(0, true), (2, true), (1, false), (4, true), (3, false), (5, false), (6, true), (7, false)] [true, true, true, true, true, true, true, false] (Sof (mm.pk [4] (by decide))) (by kernel_rfl) rfl rfl (by kernel_rfl) (fun w10 hc => ?_)
  have mm := mm.frame hc
  refine p1 rfl (fun w m => r_ld rfl (m.b 0 rfl) rfl) (mm.pk [4] (by decide)) ?_
  refine p1 rfl (fun w m => r_ld rfl (m.b 0 rfl) rfl) (mm.pk [4] (by decide)) ?_
  refine po rfl (o_f23 rfl rfl rfl (hq1 ▸ c_tk2 mm hs0 hl 1 5) ?_)
  rintro _ w11 ⟨v1, rfl, mm, hs1⟩
  refine ⟨fun _ => mm.pk [4] (by decide), ?_⟩
  refine p1 rfl (fun w m => r_fa rfl) (mm.pk [4] (by decide)) ?_
  refine po rfl (o_f23 rfl rfl rfl (hq2 ▸ c_tk2 mm hs1 (by dsimp only; omega) 0 4) ?_)
  rintro _ w12 ⟨v2, rfl, mm, hs2⟩
  refine ⟨fun _ => mm.pk [4] (by decide), ?_⟩
  refine ps rfl (o_st mm 0 rfl rfl rfl rfl rfl fun w13 mm => ⟨fun _ => mm.pk [4] (by decide), ?_⟩)
  refine p1 rfl (fun w m => r_fa rfl) (mm.pk [4] (by decide)) ?_
  refine ps rfl (o_st mm 0 rfl rfl rfl rfl rfl fun w14 mm => ⟨fun h => absurd rfl h, ?_⟩)
  refine pn ?_
  have mm : Mem w No w14 (tkL b2 b3 b4 b6 b8 (evC ⟨r, 0, clk0, 0, kd, [], 0, []⟩) e2 v2) := mm
  have l3 := @tNum_le 1 1048576 u2 e2
  generalize hq3 : tNum 1 1048576 u2 e2 = q3 at *
  obtain ⟨n, u3, e3⟩ := q3
  dsimp only at htk l3
  refine c_sreg rfl ?_
  refine s1 (r_mvf rfl) ?_
  refine so (o_f23 rfl rfl rfl (hq3 ▸ c_tk3 mm hs2 (by dsimp only; omega) 1 1048576 (by decide) (by decide) (by decide) (by decide)) ?_)
  rintro _ w15 ⟨v3, rfl, mm, hs3⟩
  refine s1 (r_fa rfl) ?_
  refine ss (o_st mm 0 rfl rfl rfl rfl rfl fun w16 mm => ?_)
  refine wn ?_
  have mm : Mem w No w16 (tkL b2 b3 b4 b6 b8 (evC ⟨r, n, clk0, 0, kd, [], 0, []⟩) e3 v3) := mm
  refine c_seq ?_
  refine c_sreg rfl ?_
  refine s1 (r_mvi rfl) ?_
  refine wn ?_
  refine c_block ?_
  refine c_loop (fun k e w' => ∃ (i : Nat) (v : Value), k + i = 5 ∧ e 0 = .slice a b.length c ∧ e 2 = .pointer (some ⟨b2, 0, none⟩) ∧ e 4 = .pointer (some ⟨b3, 0, none⟩) ∧ e 5 = .pointer (some ⟨b4, 0, none⟩) ∧ e 6 = .pointer (some ⟨b6, 0, none⟩) ∧ e 7 = .pointer (some ⟨b8, 0, none⟩) ∧
      e 8 = .func (.func 82) #[] #[.pointer (some ⟨b4, 0, none⟩), .pointer (some ⟨b3, 0, none⟩), .pointer (some ⟨b6, 0, none⟩)] ∧ e 9 = .func (.func 83) #[] #[.pointer (some ⟨b8, 0, none⟩), .pointer (some ⟨b3, 0, none⟩), .pointer (some ⟨b4, 0, none⟩), .pointer (some ⟨b6, 0, none⟩)] ∧ e 25 = .int .i64 i ∧
      Mem w No w' (tkL b2 b3 b4 b6 b8 (evC ⟨r, n, (tCtx r u3 e3 i).1, 0, kd, [], 0, []⟩) (tCtx r u3 e3 i).2.2 v) ∧ Sl w v (tCtx r u3 e3 i).2.1) 5 ?_ ?_
  · exact ⟨0, v3, rfl, rfl, rfl, rfl, rfl, rfl, rfl, rfl, rfl, rfl, mm, hs3⟩
  clear mm hc
  rintro k e w9 ⟨i, v4, hki, h0, h2, h4, h5, h6, h7, h8, h9, h25, mm, hs4⟩
  have l4 := @tCtx_le r u3 e3 i
  refine c_sreg rfl ?_
  refine s1 (r_lt h25 rfl) ?_
  refine wn ?_
  refine c_seq ?_
  refine c_cond rfl (fun h => (c_skip (t_n ?_))) (fun h => (c_exit (t_x (t_x (b_x (t_n ?_))))))
  · have hi : i < 5 := by simp at h; omega
    clear h
    refine c_seq ?_
    refine c_block ?_
    refine c_sreg rfl ?_
    refine s1 (r_mvi h25) ?_
    refine s1 (r_asi rfl) ?_
    refine wn ?_
    refine c_sreg rfl ?_
    refine s1 (r_mvi rfl) ?_
    refine s1 (r_fa h2) ?_
    refine s1 (r_ld rfl (mm.b 0 rfl) rfl) ?_
    refine s1 (r_ne rfl rfl) ?_
    refine wn ?_
    have hst : tCtx r u3 e3 (i + 1) = tStep r i (tCtx r u3 e3 i) := rfl
    generalize tCtx r u3 e3 i = q at *
    obtain ⟨cc, u4, e4⟩ := q
    dsimp only at l4
    refine c_cond rfl (fun h => ?_) (fun h => (c_skip (b_n (t_n ?_))))
    · have hne : (i : Int) ≠ r := by simpa using h
      unfold tStep at hst
      rw [if_pos hne] at hst
      refine c_region rfl ?_
      refine s1 (r_mvi rfl) ?_
      refine s1 (r_mvf h8) ?_
      refine so (o_f23 rfl rfl rfl (c_tk3 mm hs4 (by dsimp only; omega) 0 1048576 (by decide) (by decide) (by decide) (by decide)) ?_)
      rintro _ w17 ⟨v5, rfl, mm, hs5⟩
      refine s1 (r_fa h2) ?_
      refine s1 (r_ixa rfl rfl (by omega) (by omega)) ?_
      refine ss (o_st mm 0 rfl rfl rfl rfl (blt_evi _ i hi) fun w18 mm => ?_)
      refine wn (b_n (t_n ?_))
      have mm := mm.castR (setN_evi _ i hi _)
      refine c_region rfl ?_
      refine s1 (r_add h25 rfl (wi (by omega) (by omega))) ?_
      refine s1 (r_mvi rfl) ?_
      refine wn (t_n ?_)
      refine ⟨k - 1, by omega, i + 1, v5, by omega, h0, h2, h4, h5, h6, h7, h8, h9, rfl, ?_, ?_⟩
      · rw [hst]; exact mm
      · rw [hst]; exact hs5
    · have hne : ¬ (i : Int) ≠ r := by simpa using h
      unfold tStep at hst
      rw [if_neg hne] at hst
      refine c_region rfl ?_
      refine s1 (r_add h25 rfl (wi (by omega) (by omega))) ?_
      refine s1 (r_mvi rfl) ?_
      refine wn (t_n ?_)
      refine ⟨k - 1, by omega, i + 1, v4, by omega, h0, h2, h4, h5, h6, h7, h8, h9, rfl, ?_, ?_⟩
      · rw [hst]; exact mm
      · rw [hst]; exact hs4
  have hi : i = 5 := by simp at h; omega
  subst hi
  clear h h25
  generalize tCtx r u3 e3 5 = q4 at *
  obtain ⟨cc, u4, e4⟩ := q4
  dsimp only at l4 htk
  have l5 := @tNum_le 1 16777216 u4 e4
  generalize hq5 : tNum 1 16777216 u4 e4 = q5 at *
  obtain ⟨hh, u5, e5⟩ := q5
  dsimp only at htk l5
  refine c_sreg rfl ?_
  refine s1 (r_mvf h8) ?_
  refine so (o_f23 rfl rfl rfl (hq5 ▸ c_tk3 mm hs4 (by dsimp only; omega) 1 16777216 (by decide) (by decide) (by decide) (by decide)) ?_)
  rintro _ w19 ⟨v5, rfl, mm, hs5⟩
  refine s1 (r_fa h2) ?_
  refine ss (o_st mm 0 rfl rfl rfl rfl rfl fun w20 mm => ?_)
  refine wn ?_
  have mm := mm.castR (cs'' := evC ⟨r, n, cc, hh, kd, [], 0, []⟩) rfl
  have l6 := @tWords_le 8 u5 e5
  generalize hq6 : tWords 8 u5 e5 = q6 at *
  obtain ⟨key, u6, e6⟩ := q6
  dsimp only at htk l6
  refine c_seq ?_
  refine c_sreg rfl ?_
  refine s1 (r_mvf h9) ?_
  refine so (o_f14 rfl rfl (hq6 ▸ c_tk4 mm hs5 (by dsimp only; omega) 8) ?_)
  rintro _ w21 ⟨v6, rfl, mm, hs6⟩
  refine s1 (r_fa h2) ?_
  refine ss (o_st mm 0 rfl rfl rfl rfl rfl fun w22 mm => ?_)
  refine wn ?_
  have mm := mm.castR (cs'' := evC ⟨r, n, cc, hh, kd, key, 0, []⟩) rfl
  refine c_sreg rfl ?_
  refine s1 (r_fa h2) ?_
  refine s1 (r_ld rfl (mm.b 0 rfl) rfl) ?_
  refine so (o_c1 rfl (c_tKey key _) ?_)
  rintro _ w23 ⟨rfl, hc⟩
  have mm := mm.frame hc
  refine s1 (r_ne rfl rfl) ?_
  refine wn ?_
  refine c_mid0 (fun e w' => e 0 = .slice a b.length c ∧ e 2 = .pointer (some ⟨b2, 0, none⟩) ∧ e 4 = .pointer (some ⟨b3, 0, none⟩) ∧ e 5 = .pointer (some ⟨b4, 0, none⟩) ∧ e 7 = .pointer (some ⟨b8, 0, none⟩) ∧ e 9 = .func (.func 83) #[] #[.pointer (some ⟨b8, 0, none⟩), .pointer (some ⟨b3, 0, none⟩), .pointer (some ⟨b4, 0, none⟩), .pointer (some ⟨b6, 0, none⟩)] ∧ Mem w No w' (tkL b2 b3 b4 b6 b8 (evC ⟨r, n, cc, hh, kd, key, 0, []⟩) (tKeyE key e6) v6)) ?_ ?_
  · refine c_cond rfl (fun h => ?_) (fun h => (c_skip (t_n ?_)))
    · have hk : ¬ keyOk key = true := fun hk => by
        rw [show tKey key = 0 from if_pos hk] at h
        cases h
      have hke : tKeyE key e6 = if e6 = 0 then 3 else e6 := if_neg hk
      rw [hke]
      refine c_region rfl ?_
      refine s1 (r_ld h6 (mm.b 3 rfl) rfl) ?_
      refine so (o_f11 rfl rfl (c_tk1 mm 3) ?_)
      rintro _ w24 ⟨rfl, mm⟩
      refine wn (t_n ?_)
      exact ⟨h0, h2, h4, h5, h7, h9, mm⟩
    · have hk : keyOk key = true := by
        refine Classical.byContradiction fun hk => ?_
        rw [show tKey key = 10 from if_neg hk] at h
        cases h
      have hke : tKeyE key e6 = e6 := if_pos hk
      rw [hke]
      exact ⟨h0, h2, h4, h5, h7, h9, mm⟩
  clear h0 h2 h4 h5 h6 h7 h8 h9 mm hc
  rintro e w9 ⟨h0, h2, h4, h5, h7, h9, mm⟩
  generalize tKeyE key e6 = ek at *
  refine c_seq ?_
  refine c_sreg rfl ?_
  refine s1 (r_fa h2) ?_
  refine s1 (r_ld rfl (mm.b 0 rfl) rfl) ?_
  refine s1 (r_gt rfl rfl) ?_
  refine wn ?_
  refine c_mid0 (fun e w' => ∃ (x : Ev) (u : List UInt8) (er : Int) (v : Value), T = (x, u, er) ∧ e 0 = .slice a b.length c ∧ e 2 = .pointer (some ⟨b2, 0, none⟩) ∧ e 4 = .pointer (some ⟨b3, 0, none⟩) ∧ e 5 = .pointer (some ⟨b4, 0, none⟩) ∧ Mem w No w' (tkL b2 b3 b4 b6 b8 (evC x) er v) ∧ Sl w v u ∧ u.length ≤ b.length) ?_ ?_
  · refine c_cond rfl (fun h => ?_) (fun h => (c_skip (t_n ?_)))
    · have hk : 2 < kd := by simpa using h
      rw [if_pos hk] at htk
      have l7 := @tOne_le 0 1 u6 ek
      generalize hq7 : tOne 0 1 u6 ek = q7 at *
      obtain ⟨lb, u7, e7⟩ := q7
      dsimp only at htk l7
      refine c_sreg rfl ?_
      refine s1 (r_ld h7 (mm.b 4 rfl) rfl) ?_
      refine so (o_f23 rfl rfl rfl (hq7 ▸ c_tk2 mm hs6 (by dsimp only; omega) 0 1) ?_)
      rintro _ w25 ⟨v7, rfl, mm, hs7⟩
      refine s1 (r_fa h2) ?_
      refine ss (o_st mm 0 rfl rfl rfl rfl rfl fun w26 mm => ?_)
      refine wn ?_
      have mm := mm.castR (cs'' := evC ⟨r, n, cc, hh, kd, key, lb, []⟩) rfl
      have l8 := @tWords_le 12 u7 e7
      generalize hq8 : tWords 12 u7 e7 = q8 at *
      obtain ⟨vl, u8', e8⟩ := q8
      dsimp only at htk l8
      refine c_region rfl ?_
      refine s1 (r_mvf h9) ?_
      refine so (o_f14 rfl rfl (hq8 ▸ c_tk4 mm hs7 (by dsimp only; omega) 12) ?_)
      rintro _ w27 ⟨v8, rfl, mm, hs8⟩
      refine s1 (r_fa h2) ?_
      refine ss (o_st mm 0 rfl rfl rfl rfl rfl fun w28 mm => ?_)
      refine wn (t_n ?_)
      have mm := mm.castR (cs'' := evC ⟨r, n, cc, hh, kd, key, lb, vl⟩) rfl
      exact ⟨_, _, _, _, htk.symm, h0, h2, h4, h5, mm, hs8, by omega⟩
    · have hk : ¬ 2 < kd := by simpa using h
      rw [if_neg hk] at htk
      exact ⟨_, _, _, _, htk.symm, h0, h2, h4, h5, mm, hs6, by omega⟩
  clear htk h0 h2 h4 h5 h7 h9 mm
  trace_state
  rintro e w9 ⟨x, u, er, v, hT, h0, h2, h4, h5, mm, hs9, l9⟩
  have hT2 : takeS b = (x, u, er) := hTb.trans hT
  subst hT
  refine c_seq ?_
  refine c_sreg rfl ?_
  refine s1 (r_ld h4 (mm.b 1 rfl) rfl) ?_
  refine s1 (r_ne rfl rfl) ?_
  refine wn ?_
  refine c_cond rfl (fun h => ?_) (fun h => (c_skip (t_n ?_)))
  · have hz : er ≠ 0 := by simpa using h
    unfold takeFin
    rw [if_pos hz]
    refine c_sdraw mixed [(0, true), (1, true), (2, false), (3, true), (4, false)] [true, true, true, true, false] (Sof (mm.pk [2, 1] (by decide))) (by kernel_rfl) rfl rfl (by kernel_rfl) (fun w29 hc => ?_)
    have mm := mm.frame hc
    refine p1 rfl (fun w m => r_bd bN rfl) (mm.pk [2, 1] (by decide)) ?_
    refine p1 rfl (fun w m => r_ld h4 (m.b 1 rfl) rfl) (mm.pk [2, 1] (by decide)) ?_
    refine ps rfl (o_sta mm 0 rfl h2 rfl rfl rfl (Nat.le_of_ble_eq_true rfl) fun w30 mm => ⟨fun _ => mm.pk [2, 1] (by decide), ?_⟩)
    refine p1 rfl (fun w m => r_asi rfl) (mm.pk [2, 1] (by decide)) ?_
    refine ps rfl (o_st mm 1 rfl h4 rfl rfl rfl fun w31 mm => ⟨fun h => absurd rfl h, ?_⟩)
    refine pn ?_
    exact c_ret (retc3 rfl h2 (mm.b 0 rfl) rfl rfl h4 (mm.b 1 rfl) ⟨rfl, mm.chg⟩)
  have hz : er = 0 := by simpa using h
  subst hz
  have hok := takeS_in b (by rw [hT2])
  rw [hT2] at hok
  have i1 : 0 ≤ x.r := hok.r0
  have i2 : x.r < 5 := hok.r5
  have i3 : 1 ≤ x.n := hok.n1
  have i4 : x.n ≤ 1048576 := hok.n2
  obtain ⟨a', c', rfl, _, _⟩ := hs9
  unfold takeFin
  rw [if_neg (by simp)]
  refine c_sreg rfl ?_
  refine s1 (r_fa h2) ?_
  refine s1 (r_ld rfl (mm.b 0 rfl) rfl) ?_
  refine s1 (r_fa h2) ?_
  refine s1 (r_ld rfl (mm.b 0 rfl) rfl) ?_
  refine s1 (r_sub rfl rfl (wi (by omega) (by omega))) ?_
  refine s1 (r_fa h2) ?_
  refine s1 (r_ixa rfl rfl i1 i2) ?_
  refine ss (o_st mm 0 rfl rfl rfl rfl (blt_evr _ _ i1 i2) fun w32 mm => ?_)
  refine wn ?_
  have mm := mm.castR (setN_evr _ _ i1 i2 _)
  refine c_sdraw mixed [(0, true), (1, true), (2, true), (3, true), (4, true), (5, true), (6, false), (7, true), (8, false)] [true, true, true, true, true, true, true, true, false] (Sof mm) (by kernel_rfl) rfl rfl (by kernel_rfl) (fun w33 hc => ?_)
  have mm := mm.frame hc
  refine p1 rfl (fun w m => r_lda h2 (m.b 0 rfl) rfl) mm ?_
  refine p1 rfl (fun w m => r_mvs h0) mm ?_
  refine p1 rfl (fun w m => r_len rfl) mm ?_
  refine p1 rfl (fun w m => r_ld h5 (m.b 2 rfl) rfl) mm ?_
  refine p1 rfl (fun w m => r_len rfl) mm ?_
  refine p1 rfl (fun w m => r_sub rfl rfl (show IntKind.i64.wrap ((b.length : Int) - (u.length : Int)) = ((b.length - u.length : Nat) : Int) from by rw [wi (by omega) (by omega)]; omega)) mm ?_
  refine ps rfl (o_sta mm 0 rfl h2 rfl rfl rfl (Nat.le_of_ble_eq_true rfl) fun w34 mm => ⟨fun _ => mm, ?_⟩)
  refine p1 rfl (fun w m => r_asi rfl) mm ?_
  refine ps rfl (o_st mm 1 rfl h4 rfl rfl rfl fun w35 mm => ⟨fun h => absurd rfl h, ?_⟩)
  refine pn ?_
  exact c_ret (retc3 rfl h2 (mm.b 0 rfl) rfl rfl h4 (mm.b 1 rfl) ⟨rfl, mm.chg⟩)
end Go.Proofs.Ytbcpabfemejlgaa
/- frame.number, frame.body, frame.Take: walks. -/
namespace Go.Proofs.Ytbcpabfemejlgaa
open K
set_option maxRecDepth 100000
set_option maxHeartbeats 4000000

theorem vgo_le : ∀ (l : List UInt8) (i m : Nat), (vgo l i m).2.1 ≤ i + l.length
  | [], i, m => by unfold vgo; split <;> simp
  | c :: l, i, m => by
    rw [vgo]
    have := vgo_le l (i + 1) (m + c.toNat % 128 * 128 ^ i)
    split
    · simp
    · split
      · rw [List.length_cons]; omega
      · split
        · simp
        · rw [List.length_cons]; simp only; omega
theorem vtake_le (b : List UInt8) : (vtake b).2.1 ≤ b.length := by have := vgo_le b 0 0; unfold vtake; omega
theorem numT_le (b : List UInt8) : (numT b).2.1.length ≤ b.length := by unfold numT; simp only; rw [List.length_drop]; omega
theorem wi64m (n : Nat) : IntKind.i64.wrap (min (n : Int) 1048577) = ((min n 1048577 : Nat) : Int) := by
  have : min (n : Int) 1048577 = ((min n 1048577 : Nat) : Int) := by omega
  rw [this]; exact wi (by omega) (by omega)
theorem c_fNum {w0 w : World} {L : List It} (mm0 : Mem w0 No w L) (b : List UInt8) (hl : b.length ≤ 4611686018427387904) (v : Value) (hs : Sl w0 v b) : Cl Try.prog 57 #[v] w (fun r w' => ∃ a' c', r = .tuple #[.int .i64 ((numT b).1 : Nat), .slice a' (numT b).2.1.length c', .bool (numT b).2.2] ∧ Sl w0 (.slice a' (numT b).2.1.length c') (numT b).2.1 ∧ Chg No w w') := by
  obtain ⟨a, c, rfl, hcc, H⟩ := hs
  have hv := vtake_le b
  refine f_enter (args := [_]) Try.func57 rfl rfl ?_
  have mm := Mem.nil No w
  refine c_sreg rfl ?_
  refine s1 (r_asi rfl) ?_
  refine s1 (r_ass rfl) ?_
  refine s1 (r_asb rfl) ?_
  refine wn ?_
  refine c_sreg rfl ?_
  refine s1 (r_mvs rfl) ?_
  refine so (o_c1 rfl (c_vtake b hl _ _ ⟨a, c, rfl, hcc, mm0.ro H⟩) ?_)
  rintro _ w2 ⟨rfl, hc⟩
  have mm := mm.frame hc
  refine s1 (r_mvu rfl) ?_
  refine s1 (r_exti rfl rfl) ?_
  refine s1 (r_exti rfl rfl) ?_
  refine s1 (r_exti rfl rfl) ?_
  refine s1 (r_asi rfl) ?_
  refine s1 (r_asi rfl) ?_
  refine s1 (r_asi rfl) ?_
  refine wn ?_
  refine c_sdraw2 mixed [(0, some 0), (1, some 0), (2, some 0), (3, some 0), (4, some 0), (5, some 0), (6, some 0), (7, some 0), (8, some 0), (9, some 0), (10, some 0)] [0, 0, 0, 0, 0, 0, 0, 0, 0, 0, 0] (Sof mm) (Sof mm) (fun _ h => h) (by kernel_rfl) rfl rfl (by kernel_rfl) (fun w3 hc => ?_)
  have mm := mm.frame hc
  refine q01 rfl (fun w => r_mvi rfl) ?_
  refine q01 rfl (fun w => r_min2 rfl rfl) ?_
  refine q01 rfl (fun w => r_cv rfl (wi64m _)) ?_
  refine q01 rfl (fun w => r_mvs rfl) ?_
  refine q01 rfl (fun w => r_mvi rfl) ?_
  refine q01 rfl (fun w => r_sll rfl rfl (by omega) (by omega)) ?_
  refine q01 rfl (fun w => r_mvi rfl) ?_
  refine q01 rfl (fun w => r_eq rfl rfl) ?_
  refine q01 rfl (fun w => r_asi rfl) ?_
  refine q01 rfl (fun w => r_ass rfl) ?_
  refine q01 rfl (fun w => r_asb rfl) ?_
  refine qn ?_
  obtain ⟨a1, c1, hv1, hcc1, H1⟩ := Sl.drop H hcc _ hv
  have hv1 : Value.slice (slA a c (vtake b).2.1 1) (b.length - (vtake b).2.1) (c - (vtake b).2.1) = .slice a1 (numT b).2.1.length c1 := hv1
  exact c_ret (ret3 rfl rfl hv1 rfl ⟨a1, c1, rfl, ⟨a1, c1, rfl, hcc1, H1⟩, mm.chg⟩)

theorem clkW_to {c : Clk} (h : ClkW c) (i : Nat) (hi : i < 5) : i64 (c.get i) :=
  match i, hi with
  | 0, _ => h.1
  | 1, _ => h.2.1
  | 2, _ => h.2.2.1
  | 3, _ => h.2.2.2.1
  | 4, _ => h.2.2.2.2
theorem clkTT_w (b : List UInt8) : ∀ i, i ≤ 5 → ClkW (clkTT b i).1 ∧ (clkTT b i).2.1.length ≤ b.length
  | 0, _ => ⟨clk0_w, Nat.le_refl _⟩
  | i + 1, hi => by
    obtain ⟨h1, h2⟩ := clkTT_w b i (by omega)
    have h3 := numT_le (clkTT b i).2.1
    rw [clkTT]
    refine ⟨clkW_of fun j hj => ?_, by simp only; omega⟩
    have h4 := clkW_to h1 j hj
    have h5 : (numT (clkTT b i).2.1).1 ≤ 1048577 := by unfold numT; simp only; omega
    show i64 (((clkTT b i).1.set i ((numT (clkTT b i).2.1).1 : Nat)).get j)
    rw [Clk.get_set _ _ _ (by omega) hj]
    split
    · unfold i64; omega
    · exact h4
theorem clkTT_s (b : List UInt8) (i : Nat) : clkTT b (i + 1) = ((clkTT b i).1.set i (numT (clkTT b i).2.1).1, (numT (clkTT b i).2.1).2.1, (clkTT b i).2.2 && (numT (clkTT b i).2.1).2.2) := rfl
theorem evT_none {b : List UInt8} {i : Nat} (h : evT b i = none) : ∀ n, i ≤ n → evT b n = none := by
  intro n hn
  induction n with
  | zero => have : i = 0 := by omega
            subst this; exact h
  | succ n ih =>
    rcases Nat.lt_or_ge n i with hlt | hge
    · have : i = n + 1 := by omega
      subst this; exact h
    · rw [evT, ih hge]; rfl
theorem byteI (c : UInt8) : IntKind.i64.wrap ((c.toNat : Nat) : Int) = ((c.toNat : Nat) : Int) := by have := c.toNat_lt; exact wi (by omega) (by omega)
theorem K.Mem.castF {w0 w : World} {F0 : Nat → Prop} {I J : It} {b : Nat} {cs cs' ds ds' : List Value} {T T' : TypeId} {sz n n' c : Nat} {a : Option Addr} (h : Mem w0 F0 w [I, bk b cs T, J, own T' sz a n c ds]) (hc : cs = cs') (hn : n = n') (hd : ds = ds') : Mem w0 F0 w [I, bk b cs' T, own T' sz a n' c ds'] := by subst hc; subst hn; subst hd; exact h.pk [0, 1, 3] (by decide)
theorem K.Mem.casta {w0 w : World} {F0 : Nat → Prop} {I : It} {b : Nat} {cs cs' : List Value} {T : TypeId} (h : Mem w0 F0 w [I, bk b cs T]) (hc : cs = cs') : Mem w0 F0 w [I, bk b cs' T] := by subst hc; exact h
theorem c_fBody (b : List UInt8) (hl : b.length ≤ 4611686018427387904) (v : Value) (w : World) (hs : Sl w v b) : Cl Try.prog 31 #[v] w
    (fun r w' => ∃ f a' c', r = .tuple #[.agg (recV f a' c').toArray, .bool (bodyT b).isSome] ∧ (∀ x, bodyT b = some x → f = x) ∧ Chg No w w' ∧ NewR w w' a' c' f.es) := by
  obtain ⟨a, c, rfl, hcc, H⟩ := hs
  refine f_enter (args := [_]) Try.func31 rfl rfl ?_
  have mm := Mem.nil No w
  refine c_sreg rfl ?_
  refine so (o_al mm fun b2 w2 mm => ?_)
  refine s1 (r_asb rfl) ?_
  refine wn ?_
  refine c_seq ?_
  refine c_sreg rfl ?_
  refine s1 (r_mvs rfl) ?_
  refine s1 (r_len rfl) ?_
  refine s1 (r_lt rfl rfl) ?_
  refine wn ?_
  refine c_cond rfl (fun h => ?_) (fun h => (c_skip (t_n ?_)))
  · refine c_sreg rfl ?_
    refine s1 (r_bd bN rfl) ?_
    refine ss (o_sta mm 0 rfl rfl rfl rfl rfl (Nat.le_of_ble_eq_true rfl) fun w3 mm => ?_)
    refine s1 (r_asb rfl) ?_
    refine wn ?_
    have hb : bodyT b = none := by
      have h : b.length < 3 := by simp at h; omega
      unfold bodyT bodyS
      rw [if_pos h]; rfl
    rw [hb]
    have mm := mm.nilrow (T := 67) (sz := 12)
    exact c_ret (retc2 rfl rfl (mm.b 0 rfl) rfl rfl ⟨rec0, none, 0, rfl, (fun x hx => nomatch hx), mm.chg, mm.isNew 1 rfl⟩)
  have hlen : 3 ≤ b.length := by simp at h; omega
  clear h
  have hB0 := nth_u8s b 0 (by omega)
  have hB1 := nth_u8s b 1 (by omega)
  have hT : bodyT b = (if fHas ((b.getD 0 0).toNat : Int) = 2 then some (⟨((b.getD 0 0).toNat : Int), ((b.getD 1 0).toNat : Int), (numT (b.drop 2)).1, clk0, []⟩, (numT (b.drop 2)).2.1, (numT (b.drop 2)).2.2)
      else if fHas ((b.getD 0 0).toNat : Int) = 3 then some (⟨((b.getD 0 0).toNat : Int), ((b.getD 1 0).toNat : Int), 0, (clkTT (b.drop 2) 5).1, []⟩, (clkTT (b.drop 2) 5).2.1, (clkTT (b.drop 2) 5).2.2)
      else if fHas ((b.getD 0 0).toNat : Int) = 1 then (evT ((b.drop 2).drop 1) ((b.drop 2).getD 0 0).toNat).map fun q => (⟨((b.getD 0 0).toNat : Int), ((b.getD 1 0).toNat : Int), 0, clk0, q.1⟩, q.2, true)
      else some (⟨((b.getD 0 0).toNat : Int), ((b.getD 1 0).toNat : Int), 0, clk0, []⟩, b.drop 2, true)).bind bodyQ := by
    unfold bodyT bodyS
    rw [if_neg (by omega)]
  have hk := byteI (b.getD 0 0)
  have hr := byteI (b.getD 1 0)
  refine c_sdraw2 mixed [(0, some 0), (1, some 0), (4, some 0), (5, some 0), (2, some 2), (3, some 0), (6, some 2), (7, some 2), (8, some 0), (9, none), (10, none), (11, some 0)] [0, 0, 0, 0, 0, 0, 2, 2, 0, 2, 0, 0] (Sof (mm.pk [0] (by decide))) (Sof (mm.pk [0] (by decide))) (fun _ h => h) (by kernel_rfl) rfl rfl (by kernel_rfl) (fun w4 hc => ?_)
  have mm := mm.frame hc
  refine q01 rfl (fun w => r_mvs rfl) ?_
  refine q01 rfl (fun w => r_ix rfl rfl (by omega) (by omega) (H.some hB0)) ?_
  refine q01 rfl (fun w => r_mvs rfl) ?_
  refine q01 rfl (fun w => r_ix rfl rfl (by omega) (by omega) (H.some hB1)) ?_
  refine qA1 rfl (fun w m => r_ldc rfl (m.ro H) hB0) (mm.pk [0] (by decide)) ?_
  refine q01 rfl (fun w => r_cv rfl hk) ?_
  refine qA1 rfl (fun w m => r_ldc rfl (m.ro H) hB1) (mm.pk [0] (by decide)) ?_
  refine qA1 rfl (fun w m => r_cv rfl hr) (mm.pk [0] (by decide)) ?_
  refine q01 rfl (fun w => r_bd (bi rfl (bi rfl bN)) rfl) ?_
  refine qo rfl (o_al mm fun b5 w5 mm => ⟨(mm.pk [0] (by decide)), ?_⟩)
  refine qs rfl (o_sta mm 1 rfl rfl rfl rfl rfl (Nat.le_of_ble_eq_true rfl) fun w6 mm => ⟨trivial, ?_⟩)
  refine q01 rfl (fun w => r_asb rfl) ?_
  refine qn ?_
  have mm : Mem w No _ [bk b2 (recV rec0 none 0) 40, bk b5 (recV ⟨((b.getD 0 0).toNat : Int), ((b.getD 1 0).toNat : Int), 0, clk0, []⟩ none 0) 40] := mm
  generalize (((b.getD 0 0).toNat : Nat) : Int) = k at *
  generalize (((b.getD 1 0).toNat : Nat) : Int) = r at *
  refine c_sreg rfl ?_
  refine s1 (r_mvs rfl) ?_
  refine s1 (r_sll rfl rfl (by omega) (by omega)) ?_
  refine s1 (r_ass rfl) ?_
  refine wn ?_
  obtain ⟨a1, c1, hv1, hcc1, H1⟩ := Sl.drop H hcc 2 (by omega)
  have hl2 : 1 ≤ (b.drop 2).length ∧ (b.drop 2).length ≤ 4611686018427387904 := by rw [List.length_drop]; omega
  generalize b.drop 2 = s at *
  have hs2 : Sl w (.slice a1 s.length c1) s := ⟨a1, c1, rfl, hcc1, H1⟩
  refine c_seq ?_
  refine c_sreg rfl ?_
  refine s1 (r_fa rfl) ?_
  refine s1 (r_ld rfl (mm.b 1 rfl) rfl) ?_
  refine so (o_c1 rfl (c_has k _) ?_)
  rintro _ w7 ⟨rfl, hc⟩
  have mm := mm.frame hc
  refine wn ?_
  refine c_mid0 (fun e w' => ∃ f ao co v' s' ok, e 0 = v' ∧ Sl w v' s' ∧ e 2 = .pointer (some ⟨b2, 0, none⟩) ∧ e 4 = .pointer (some ⟨b5, 0, none⟩) ∧ e 5 = .bool ok ∧ bodyT b = bodyQ (f, s', ok) ∧ Mem w No w' [bk b2 (recV rec0 none 0) 40, bk b5 (recV f ao co) 40, own 67 12 ao f.es.length co (evsC f.es)] ∧ ClkW f.c) ?_ ?_
  · refine c_block ?_
    refine c_sreg rfl ?_
    refine s1 (r_eq rfl rfl) ?_
    refine s1 (r_asb rfl) ?_
    refine wn ?_
    refine c_cond rfl (fun h => ?_) (fun h => ?_)
    · have h2 : fHas k = 2 := by simpa using h
      rw [if_pos h2] at hT
      refine c_region rfl ?_
      refine s1 (r_mvs hv1) ?_
      refine so (o_c1 rfl (c_fNum mm s hl2.2 _ hs2) ?_)
      rintro _ w8 ⟨a8, c8, rfl, hs3, hc⟩
      have mm := mm.frame hc
      refine s1 (r_mvu rfl) ?_
      refine s1 (r_exti rfl rfl) ?_
      refine s1 (r_exts rfl rfl) ?_
      refine s1 (r_extb rfl rfl) ?_
      refine s1 (r_fa rfl) ?_
      refine ss (o_st mm 1 rfl rfl rfl rfl rfl fun w9 mm => ?_)
      refine s1 (r_ass rfl) ?_
      refine s1 (r_asb rfl) ?_
      refine wn (b_n (t_n ?_))
      exact ⟨_, none, 0, _, _, _, rfl, hs3, rfl, rfl, rfl, hT, mm.nilrow, clk0_w⟩
    have h2 : ¬ fHas k = 2 := by simpa using h
    rw [if_neg h2] at hT
    clear h
    refine c_sreg rfl ?_
    refine s1 (r_eq rfl rfl) ?_
    refine s1 (r_asb rfl) ?_
    refine wn ?_
    refine c_cond rfl (fun h => ?_) (fun h => ?_)
    · have h3 : fHas k = 3 := by simpa using h
      rw [if_pos h3] at hT
      clear h
      refine c_sreg rfl ?_
      refine s1 (r_mvi rfl) ?_
      refine wn ?_
      refine c_block ?_
      refine c_loop (fun kk e w' => ∃ (i : Nat) (v' : Value) (q : Clk × List UInt8 × Bool), kk + i = 5 ∧ clkTT s i = q ∧ e 0 = v' ∧ Sl w v' q.2.1 ∧ e 2 = .pointer (some ⟨b2, 0, none⟩) ∧ e 4 = .pointer (some ⟨b5, 0, none⟩) ∧ e 5 = .bool q.2.2 ∧ e 41 = .int .i64 (i : Nat) ∧ Mem w No w' [bk b2 (recV rec0 none 0) 40, bk b5 (recV ⟨k, r, 0, q.1, []⟩ none 0) 40]) 5 ?_ ?_
      · exact ⟨0, _, (clk0, s, true), rfl, rfl, hv1, hs2, rfl, rfl, rfl, rfl, mm⟩
      clear mm
      clear hv1
      rintro kk e w9 ⟨i, v1, ⟨qc, ql, qb⟩, hki, hq, h0, hs3, h2', h4, h5, h41, mm⟩
      refine c_sreg rfl ?_
      refine s1 (r_lt h41 rfl) ?_
      refine wn ?_
      refine c_seq ?_
      refine c_cond rfl (fun h => (c_skip (t_n ?_))) (fun h => (c_exit (t_x (t_x (b_x (b_n (t_n ?_)))))))
      · have hi : i < 5 := by simp at h; omega
        clear h
        have hw := (clkTT_w s i (by omega)).2
        rw [hq] at hw
        have hw : ql.length ≤ s.length := hw
        have hnx : clkTT s (i + 1) = (qc.set i (numT ql).1, (numT ql).2.1, qb && (numT ql).2.2) := by rw [clkTT_s, hq]
        obtain ⟨a3, c3, rfl, hcc3, H3⟩ := hs3
        refine c_seq ?_
        refine c_block ?_
        refine c_sreg rfl ?_
        refine s1 (r_mvi h41) ?_
        refine s1 (r_asi rfl) ?_
        refine wn ?_
        refine c_sreg rfl ?_
        refine s1 (r_asb rfl) ?_
        refine wn ?_
        refine c_sreg rfl ?_
        refine s1 (r_mvi rfl) ?_
        refine s1 (r_mvs h0) ?_
        refine so (o_c1 rfl (c_fNum mm ql (by omega) _ ⟨a3, c3, rfl, hcc3, H3⟩) ?_)
        rintro _ w10 ⟨a10, c10, rfl, hs4, hc⟩
        have mm := mm.frame hc
        refine s1 (r_mvu rfl) ?_
        refine s1 (r_exti rfl rfl) ?_
        refine s1 (r_exts rfl rfl) ?_
        refine s1 (r_extb rfl rfl) ?_
        refine s1 (r_fa h4) ?_
        refine s1 (r_ixa rfl rfl (by omega) (by omega)) ?_
        refine ss (o_st mm 1 rfl rfl rfl rfl (blt_rvi _ _ _ i hi) fun w11 mm => ?_)
        refine s1 (r_ass rfl) ?_
        refine s1 (r_asb rfl) ?_
        refine wn ?_
        have mm := mm.casta (setN_rvi _ _ _ i hi _)
        refine c_region rfl ?_
        refine s1 (r_mvb h5) ?_
        refine s1 (r_mvb rfl) ?_
        refine sT rfl rfl (fun h => r_mvb rfl) ?_
        refine s1 (r_and rfl rfl) ?_
        refine s1 (r_asb rfl) ?_
        refine wn (b_n (t_n ?_))
        refine c_region rfl ?_
        refine s1 (r_add h41 rfl (wi (by omega) (by omega))) ?_
        refine s1 (r_mvi rfl) ?_
        refine wn (t_n ?_)
        exact ⟨kk - 1, by omega, i + 1, _, _, by omega, hnx, rfl, hs4, h2', h4, rfl, rfl, mm⟩
      have hi : i = 5 := by simp at h; omega
      subst hi
      have hw := (clkTT_w s 5 (Nat.le_refl _)).1
      rw [hq] at hT hw
      exact ⟨_, none, 0, _, _, _, h0, hs3, h2', h4, h5, hT, mm.nilrow, hw⟩
    have h3 : ¬ fHas k = 3 := by simpa using h
    rw [if_neg h3] at hT
    clear h
    refine c_sreg rfl ?_
    refine s1 (r_eq rfl rfl) ?_
    refine s1 (r_asb rfl) ?_
    refine wn ?_
    refine c_cond rfl (fun h => ?_) (fun h => (c_skip (b_n (t_n ?_))))
    · have h1 : fHas k = 1 := by simpa using h
      rw [if_pos h1] at hT
      clear h
      have hS0 := nth_u8s s 0 (by omega)
      refine c_sreg rfl ?_
      refine s1 (r_mvs hv1) ?_
      refine s1 (r_ix rfl rfl (by omega) (by omega) (H1.some hS0)) ?_
      refine s1 (r_ldc rfl (mm.ro H1) hS0) ?_
      refine s1 (r_cv rfl (byteI _)) ?_
      refine s1 (r_asi rfl) ?_
      refine wn ?_
      refine c_sreg rfl ?_
      refine s1 (r_mvs hv1) ?_
      refine s1 (r_sll rfl rfl (by omega) (by omega)) ?_
      refine s1 (r_ass rfl) ?_
      refine wn ?_
      obtain ⟨a2, c2, hv3, hcc2, H2⟩ := Sl.drop H1 hcc1 1 (by omega)
      have hl3 : (s.drop 1).length ≤ 4611686018427387904 := by rw [List.length_drop]; omega
      have hn := (s.getD 0 0).toNat_lt
      generalize s.drop 1 = t at *
      generalize (s.getD 0 0).toNat = n at *
      have hs3 : Sl w (.slice a2 t.length c2) t := ⟨a2, c2, rfl, hcc2, H2⟩
      refine c_sreg rfl ?_
      refine s1 (r_mvi rfl) ?_
      refine s1 (r_mvi rfl) ?_
      refine wn ?_
      refine c_block ?_
      refine c_loop (fun kk e w' => ∃ (i : Nat) (l : List Ev) (s' : List UInt8) (v' : Value) (ao : Option Addr) (co : Nat), kk + i = n ∧ evT t i = some (l, s') ∧ s'.length ≤ t.length ∧ e 0 = v' ∧ Sl w v' s' ∧ e 2 = .pointer (some ⟨b2, 0, none⟩) ∧ e 4 = .pointer (some ⟨b5, 0, none⟩) ∧ e 5 = .bool true ∧ e 66 = .int .i64 (n : Nat) ∧ e 67 = .int .i64 (i : Nat) ∧ Mem w No w' [bk b2 (recV rec0 none 0) 40, bk b5 (recV ⟨k, r, 0, clk0, l⟩ ao co) 40, own 67 12 ao l.length co (evsC l)]) n ?_ ?_
      · exact ⟨0, [], t, _, none, 0, rfl, rfl, Nat.le_refl _, hv3, hs3, rfl, rfl, rfl, rfl, rfl, mm.nilrow⟩
      clear mm
      rintro kk e w9 ⟨i, l, s', v1, ao, co, hki, hev, hsl, h0, hs4, h2', h4, h5, h66, h67, mm⟩
      refine c_sreg rfl ?_
      refine s1 (r_lt h67 h66) ?_
      refine wn ?_
      refine c_seq ?_
      refine c_cond rfl (fun h => (c_skip (t_n ?_))) (fun h => (c_exit (t_x (t_x (b_x (b_n (t_n ?_)))))))
      · have hi : i < n := by simp at h; omega
        clear h
        obtain ⟨a3, c3, rfl, hcc3, H3⟩ := hs4
        obtain ⟨hll, _⟩ := evT_ok i hev
        refine c_seq ?_
        refine c_block ?_
        refine c_sreg rfl ?_
        refine s1 (r_mvs h0) ?_
        refine so (o_c1 rfl (c_eTake s' (by omega) _ _ ⟨a3, c3, rfl, hcc3, mm.ro H3⟩) ?_)
        rintro _ w12 ⟨rfl, hc⟩
        have mm := mm.frame hc
        refine s1 (r_mvu rfl) ?_
        refine s1 (r_extg rfl rfl) ?_
        refine s1 (r_exti rfl rfl) ?_
        refine s1 (r_exti rfl rfl) ?_
        refine so (o_al mm fun b13 w13 mm => ?_)
        refine ss (o_sta mm 3 rfl rfl rfl rfl rfl (Nat.le_of_ble_eq_true rfl) fun w14 mm => ?_)
        refine s1 (r_asi rfl) ?_
        refine s1 (r_asi rfl) ?_
        refine wn ?_
        refine c_seq ?_
        refine c_sreg rfl ?_
        refine s1 (r_mvi rfl) ?_
        refine s1 (r_ne rfl rfl) ?_
        refine wn ?_
        refine c_cond rfl (fun h => ?_) (fun h => (c_skip (t_n ?_)))
        · have hne : (takeE s').2.2 ≠ 0 := by simpa using h
          refine c_sreg rfl ?_
          refine s1 (r_bd bN rfl) ?_
          refine ss (o_sta mm 0 rfl h2' rfl rfl rfl (Nat.le_of_ble_eq_true rfl) fun w15 mm => ?_)
          refine s1 (r_asb rfl) ?_
          refine wn ?_
          have hnone : evT t (i + 1) = none := by rw [evT, hev]; show evT1 (l, s') = none; unfold evT1; exact if_neg hne
          have hb : bodyT b = none := by rw [hT, evT_none hnone n (by omega)]; rfl
          rw [hb]
          have mm := mm.nilrow (T := 67) (sz := 12)
          exact c_ret (retc2 rfl h2' (mm.b 0 rfl) rfl rfl ⟨rec0, none, 0, rfl, (fun x hx => nomatch hx), mm.chg, mm.isNew 4 rfl⟩)
        have he : (takeE s').2.2 = 0 := by simpa using h
        clear h
        obtain ⟨j, hj, hjl⟩ : ∃ j : Nat, (takeE s').2.1 = j ∧ j ≤ s'.length := by
          rcases takeE_any s' with ⟨_, _, q3, q4, _⟩ | ⟨q, _⟩
          · exact ⟨_, q3, q4⟩
          · exact absurd he q
        have hjn : (takeE s').2.1.toNat = j := by rw [hj]; rfl
        have hnx : evT t (i + 1) = some (l ++ [(takeE s').1], s'.drop j) := by
          rw [evT, hev]
          show evT1 (l, s') = _
          unfold evT1
          rw [if_pos he, hjn]
        rw [hj]
        have mm := mm.pk [0, 1, 3, 2] (by decide)
        refine c_draw2 mixed [(0, some 0), (5, some 0), (6, some 0), (7, some 0), (1, some 2), (2, some 2), (3, none), (4, none), (8, some 0), (9, none), (10, some 0)] [0, 0, 2, 2, 0, 0, 0, 0, 0, 0, 0] (Sof (mm.pk [0, 1, 2] (by decide))) (Sof (mm.pk [0, 1, 2] (by decide))) (fun _ h => h) (by kernel_rfl) rfl rfl (by kernel_rfl) (fun w16 hc => ?_)
        have mm := mm.frame hc
        refine q01 rfl (fun w => r_fa h4) ?_
        refine q01 rfl (fun w => r_mvs h0) ?_
        refine q01 rfl (fun w => r_mvi rfl) ?_
        refine q01 rfl (fun w => r_sll rfl rfl (by omega) (by omega)) ?_
        refine qA1 rfl (fun w m => r_ld rfl (m.b 1 rfl) rfl) (mm.pk [0, 1, 2] (by decide)) ?_
        refine qA1 rfl (fun w m => r_lda rfl (m.b 2 rfl) rfl) (mm.pk [0, 1, 2] (by decide)) ?_
        refine qo rfl (o_bg mm (bg rfl bN) rfl rfl (by decide) (by decide) (by decide) fun a17 c17 w17 mm => ⟨(mm.pk [0, 1, 2] (by decide)), ?_⟩)
        refine qo rfl (o_ap mm 3 rfl rfl rfl (src_own mm 4 rfl rfl) (by omega) (by unfold maxLen; omega) fun a18 c18 w18 mm => ⟨trivial, ?_⟩)
        refine q01 rfl (fun w => r_fa h4) ?_
        refine qs rfl (o_st mm 1 rfl rfl rfl rfl rfl fun w19 mm => ⟨trivial, ?_⟩)
        refine q01 rfl (fun w => r_ass rfl) ?_
        refine qn (b_n (t_n ?_))
        have hsn : evsC (l ++ [(takeE s').1]) = evsC l ++ evC (takeE s').1 := by rw [evsC_append]; simp [evsC]
        have hle : (l ++ [(takeE s').1]).length = l.length + 1 := by rw [List.length_append]; rfl
        have mm := (mm.pk [0, 1, 2, 3] (by decide)).castF (cs' := recV ⟨k, r, 0, clk0, l ++ [(takeE s').1]⟩ _ _) (n' := (l ++ [(takeE s').1]).length) (ds' := evsC (l ++ [(takeE s').1])) (by simp only [recV, hle]; rfl) hle.symm (by rw [hsn]; rfl)
        have hs5 := Sl.drop H3 hcc3 j hjl
        refine c_region rfl ?_
        refine s1 (r_add h67 rfl (wi (by omega) (by omega))) ?_
        refine s1 (r_mvi rfl) ?_
        refine wn (t_n ?_)
        exact ⟨kk - 1, by omega, i + 1, _, _, _, _, _, by omega, hnx, by rw [List.length_drop]; omega, rfl, hs5, h2', h4, h5, h66, rfl, mm⟩
      have hi : i = n := by simp at h; omega
      subst hi
      rw [hev] at hT
      exact ⟨_, ao, co, _, _, _, h0, hs4, h2', h4, h5, hT, mm, clk0_w⟩
    · have h1 : ¬ fHas k = 1 := by simpa using h
      rw [if_neg h1] at hT
      exact ⟨_, none, 0, _, _, _, hv1, hs2, rfl, rfl, rfl, hT, mm.nilrow, clk0_w⟩
  clear mm
  rintro e w9 ⟨f, ao, co, v', s', ok, h0, hs3, h2', h4, h5, hT, mm, hw⟩
  obtain ⟨a3, c3, rfl, hcc3, H3⟩ := hs3
  refine c_sdraw2 mixed [(1, some 0), (2, some 0), (3, some 0), (4, some 0), (5, some 0), (6, some 0), (7, some 0), (0, some 2), (8, some 2), (9, none), (10, some 2), (11, none), (12, some 0)] [0, 0, 0, 0, 0, 0, 0, 0, 2, 2, 2, 2, 0] (Sof (mm.pk [1, 2] (by decide))) (Sof (mm.pk [1, 2] (by decide))) (fun _ h => h) (by kernel_rfl) rfl rfl (by kernel_rfl) (fun w20 hc => ?_)
  have mm := mm.frame hc
  refine q01 rfl (fun w => r_mvb h5) ?_
  refine q01 rfl (fun w => r_mvb rfl) ?_
  refine q0T rfl rfl rfl (fun h w => r_mvs h0) ?_
  refine q0T rfl rfl rfl (fun h w => r_len (sel_t h :)) ?_
  refine q0T rfl rfl rfl (fun h w => r_eq (sel_t h :) rfl) ?_
  refine q01 rfl (fun w => r_and rfl rfl) ?_
  refine q01 rfl (fun w => r_mvb rfl) ?_
  refine qA1 rfl (fun w m => r_lda h4 (m.b 0 rfl) rfl) (mm.pk [1, 2] (by decide)) ?_
  refine qAT rfl rfl rfl (fun h w m => r_lda h4 (m.b 0 rfl) rfl) (mm.pk [1, 2] (by decide)) ?_
  refine qTw (I := Sof mm) rfl rfl rfl mm (fun h => o_c1 (sel_t h :) (c_frMay f _ (mm.c 2 rfl) hw) (fun _ _ hh => ⟨hh.1, mm.frame hh.2⟩)) (fun w21 mm => ⟨(mm.pk [1, 2] (by decide)), ?_⟩)
  refine qA1 rfl (fun w m => r_and rfl rfl) (mm.pk [1, 2] (by decide)) ?_
  refine qs rfl (o_sta mm 0 rfl h2' rfl rfl rfl (Nat.le_of_ble_eq_true rfl) fun w22 mm => ⟨(mm.pk [1, 2] (by decide)), ?_⟩)
  refine q01 rfl (fun w => r_asb rfl) ?_
  refine qn ?_
  refine c_ret (retc2 rfl h2' (mm.b 0 rfl) rfl rfl ⟨f, ao, co, congrArg (fun z => Value.tuple #[.agg (recV f ao co).toArray, .bool z]) (?_ : (_ : Bool) = _), ?_, mm.chg, mm.isNew 2 rfl⟩)
  · rw [hT]
    unfold bodyQ
    clear mm hc
    cases ok <;> by_cases hz : s'.length = 0 <;> cases hm : frMay f <;> simp [hz, hm] <;> trace_state
  · intro x hx
    rw [hT] at hx
    unfold bodyQ at hx
    split at hx
    · cases hx; rfl
    · cases hx
theorem c_fTake (b : List UInt8) (hb : b.length ≤ 1099511627776) (v : Value) (w : World) (hs : Sl w v b) : Cl Try.prog 14 #[v] w
    (fun r w' => ∃ a' c', r = .tuple #[.agg (recV (takeF b).1 a' c').toArray, .int .i64 (takeF b).2] ∧ Chg No w w' ∧ NewR w w' a' c' (takeF b).1.es) := by
  have hs' := hs
  obtain ⟨a, c, rfl, hcc, H⟩ := hs
  refine f_enter (args := [_]) Try.func14 rfl rfl ?_
  have mm := Mem.nil No w
  refine c_sreg rfl ?_
  refine so (o_al mm fun b2 w2 mm => ?_)
  refine s1 (r_asi rfl) ?_
  refine wn ?_
  refine c_seq ?_
  refine c_sreg rfl ?_
  refine s1 (r_mvs rfl) ?_
  refine s1 (r_len rfl) ?_
  refine s1 (r_gt rfl rfl) ?_
  refine wn ?_
  refine c_cond rfl (fun h => ?_) (fun h => (c_skip (t_n ?_)))
  · have h : 2048 < b.length := by simp at h; omega
    refine c_sreg rfl ?_
    refine s1 (r_bd bN rfl) ?_
    refine ss (o_sta mm 0 rfl rfl rfl rfl rfl (Nat.le_of_ble_eq_true rfl) fun w3 mm => ?_)
    refine s1 (r_asi rfl) ?_
    refine wn ?_
    have e1 : takeF b = (rec0, 5) := by unfold takeF; rw [if_pos h]
    rw [e1]
    have mm := mm.nilrow (T := 67) (sz := 12)
    exact c_ret (retc2 rfl rfl (mm.b 0 rfl) rfl rfl ⟨none, 0, rfl, mm.chg, mm.isNew 1 rfl⟩)
  have hlen : ¬ 2048 < b.length := by simp at h; omega
  clear h
  refine c_sreg rfl ?_
  refine s1 (r_mvs rfl) ?_
  refine so (o_c1 rfl (c_open b hb _ _ ⟨a, c, rfl, hcc, mm.ro H⟩) ?_)
  rintro _ w4 ⟨a4, c4, rfl, hc, hn⟩
  have mm := mm.new hc hn
  refine s1 (r_mvu rfl) ?_
  refine s1 (r_exts rfl rfl) ?_
  refine s1 (r_extb rfl rfl) ?_
  refine s1 (r_ass rfl) ?_
  refine s1 (r_asb rfl) ?_
  refine wn ?_
  refine c_seq ?_
  refine c_sreg rfl ?_
  refine s1 (r_mvb rfl) ?_
  refine s1 (r_not rfl) ?_
  refine wn ?_
  refine c_cond rfl (fun h => ?_) (fun h => (c_skip (t_n ?_)))
  · refine c_sreg rfl ?_
    refine s1 (r_bd bN rfl) ?_
    refine ss (o_sta mm 0 rfl rfl rfl rfl rfl (Nat.le_of_ble_eq_true rfl) fun w5 mm => ?_)
    refine s1 (r_asi rfl) ?_
    refine wn ?_
    have e1 : takeF b = (rec0, 4) := by
      have h : openL b = none := by simpa using h
      unfold takeF
      rw [if_neg hlen, h]
    rw [e1]
    have mm := mm.nilrow (T := 67) (sz := 12)
    exact c_ret (retc2 rfl rfl (mm.b 0 rfl) rfl rfl ⟨none, 0, rfl, mm.chg, mm.isNew 2 rfl⟩)
  obtain ⟨t, ht⟩ : ∃ t, openL b = some t := by
    cases ho : openL b with
    | none => rw [ho] at h; cases h
    | some t => exact ⟨t, rfl⟩
  clear h
  have hov : openV b = t := by unfold openV; rw [ht]; rfl
  rw [hov] at mm
  have htl : t.length ≤ 2048 := by
    have := openL_some ht
    rw [this, sealL_length] at hlen
    omega
  have hvl := vtake_le t
  have hT : takeF b = (if (vtake t).2.2 ≠ 0 ∨ (vtake t).1 ≠ t.length - (vtake t).2.1 then ((rec0, 3) : Rec × Int) else match bodyT (t.drop (vtake t).2.1) with
    | none => (rec0, 3)
    | some f => (f, 0)) := by
    unfold takeF
    rw [if_neg hlen, ht]; rfl
  refine c_sreg rfl ?_
  refine s1 (r_mvs (show _ = Value.slice a4 t.length c4 by rw [← hov]; rfl)) ?_
  refine so (o_c1 rfl (c_vtake t (by omega) _ _ ⟨_, _, rfl, own_le (mm.o 1 rfl), mm.c 1 rfl⟩) ?_)
  rintro _ w6 ⟨rfl, hc⟩
  have mm := mm.frame hc
  refine s1 (r_mvu rfl) ?_
  refine s1 (r_exti rfl rfl) ?_
  refine s1 (r_exti rfl rfl) ?_
  refine s1 (r_exti rfl rfl) ?_
  refine s1 (r_asi rfl) ?_
  refine s1 (r_asi rfl) ?_
  refine s1 (r_asi rfl) ?_
  refine wn ?_
  refine c_seq ?_
  refine c_sreg rfl ?_
  refine s1 (r_mvi rfl) ?_
  refine s1 (r_ne rfl rfl) ?_
  refine s1 (r_mvb rfl) ?_
  refine sF rfl rfl (fun h => r_mvi rfl) ?_
  refine sF rfl rfl (fun h => r_mvs (show _ = Value.slice a4 t.length c4 by rw [← hov]; rfl)) ?_
  refine sF rfl rfl (fun h => r_len (sel_t h :)) ?_
  refine sF rfl rfl (fun h => r_mvi rfl) ?_
  refine sF rfl rfl (fun h => r_sub (sel_t h :) (sel_t h :) (wi (by omega) (by omega))) ?_
  refine sF rfl rfl (fun h => r_cv (sel_t h :) (show IntKind.u64.wrap (((t.length : Nat) : Int) - (((vtake t).2.1 : Nat) : Int)) = ((t.length - (vtake t).2.1 : Nat) : Int) from by rw [wu64 (by omega) (by omega)]; omega)) ?_
  refine sF rfl rfl (fun h => r_ne (sel_t h :) (sel_t h :)) ?_
  refine s1 (r_or rfl rfl) ?_
  refine wn ?_
  refine c_cond rfl (fun h => ?_) (fun h => (c_skip (t_n ?_)))
  · refine c_sreg rfl ?_
    refine s1 (r_bd bN rfl) ?_
    refine ss (o_sta mm 0 rfl rfl rfl rfl rfl (Nat.le_of_ble_eq_true rfl) fun w7 mm => ?_)
    refine s1 (r_asi rfl) ?_
    refine wn ?_
    have e1 : takeF b = (rec0, 3) := by
      rw [hT, if_pos]
      simp at h
      omega
    rw [e1]
    have mm := mm.nilrow (T := 67) (sz := 12)
    exact c_ret (retc2 rfl rfl (mm.b 0 rfl) rfl rfl ⟨none, 0, rfl, mm.chg, mm.isNew 2 rfl⟩)
  rw [if_neg (by simp at h; omega)] at hT
  clear h
  have hs2 := Sl.drop (mm.c 1 rfl) (own_le (mm.o 1 rfl)) (vtake t).2.1 hvl
  refine c_sreg rfl ?_
  refine s1 (r_mvs (show _ = Value.slice a4 t.length c4 by rw [← hov]; rfl)) ?_
  refine s1 (r_mvi rfl) ?_
  refine s1 (r_sll rfl rfl (by omega) (by omega)) ?_
  refine so (o_c1 rfl (c_fBody (t.drop (vtake t).2.1) (by rw [List.length_drop]; omega) _ _ hs2) ?_)
  rintro _ w8 ⟨f, a8, c8, rfl, hf, hc, hn⟩
  have mm := mm.new hc hn
  refine s1 (r_mvu rfl) ?_
  refine s1 (r_extg rfl rfl) ?_
  refine s1 (r_extb rfl rfl) ?_
  refine so (o_al mm fun b9 w9 mm => ?_)
  refine ss (o_sta mm 3 rfl rfl rfl rfl rfl (Nat.le_of_ble_eq_true rfl) fun w10 mm => ?_)
  refine s1 (r_asb rfl) ?_
  refine wn ?_
  refine c_seq ?_
  refine c_sreg rfl ?_
  refine s1 (r_mvb rfl) ?_
  refine s1 (r_not rfl) ?_
  refine wn ?_
  refine c_cond rfl (fun h => ?_) (fun h => (c_skip (t_n ?_)))
  · refine c_sreg rfl ?_
    refine s1 (r_bd bN rfl) ?_
    refine ss (o_sta mm 0 rfl rfl rfl rfl rfl (Nat.le_of_ble_eq_true rfl) fun w11 mm => ?_)
    refine s1 (r_asi rfl) ?_
    refine wn ?_
    have e1 : takeF b = (rec0, 3) := by
      have h : bodyT (t.drop (vtake t).2.1) = none := by simpa using h
      rw [hT, h]
    rw [e1]
    have mm := mm.nilrow (T := 67) (sz := 12)
    exact c_ret (retc2 rfl rfl (mm.b 0 rfl) rfl rfl ⟨none, 0, rfl, mm.chg, mm.isNew 4 rfl⟩)
  obtain ⟨x, hx⟩ : ∃ x, bodyT (t.drop (vtake t).2.1) = some x := by
    cases ho : bodyT (t.drop (vtake t).2.1) with
    | none => rw [ho] at h; cases h
    | some x => exact ⟨x, rfl⟩
  have e1 : takeF b = (x, 0) := by rw [hT, hx]
  rw [e1]
  obtain rfl := hf x hx
  refine c_sreg rfl ?_
  refine s1 (r_lda rfl (mm.b 3 rfl) rfl) ?_
  refine ss (o_sta mm 0 rfl rfl rfl rfl rfl (Nat.le_of_ble_eq_true rfl) fun w12 mm => ?_)
  refine s1 (r_asi rfl) ?_
  refine wn ?_
  exact c_ret (retc2 rfl rfl (mm.b 0 rfl) rfl rfl ⟨_, _, rfl, mm.chg, mm.isNew 2 rfl⟩)
end Go.Proofs.Ytbcpabfemejlgaa
/- kithlaw06.few, EventBack, EventCuts: walks. -/
namespace Go.Proofs.Ytbcpabfemejlgaa
open K
set_option maxRecDepth 100000
set_option maxHeartbeats 4000000

theorem Sl.own {w0 w : World} {F0 : Nat → Prop} {L : List It} (mm : Mem w0 F0 w L) (k : Nat) {a : Option Addr} {c : Nat} {b : List UInt8} (hk : nth L k = some (own 5 1 a b.length c (u8s b))) : Sl w (.slice a b.length c) b :=
  ⟨a, c, rfl, own_le (mm.o k hk), mm.c k hk⟩
def E23 (e : Int) : Prop := e = 0 ∨ e = 2 ∨ e = 3
theorem tOne_23 {l h : Int} {s : List UInt8} {e : Int} (he : E23 e) : E23 (tOne l h s e).2.2 := by
  unfold tOne
  split
  · exact he
  · split
    · exact .inr (.inl rfl)
    · show E23 (if _ then _ else _)
      split
      · exact .inr (.inr rfl)
      · exact .inl rfl
theorem tNum_23 {l h : Int} {s : List UInt8} {e : Int} (he : E23 e) : E23 (tNum l h s e).2.2 := by
  have hv := vtake_err (b := s)
  unfold tNum
  split
  · show E23 (if _ then _ else _)
    split
    · rcases hv with hv | hv | hv
      · exact .inl hv.1
      · exact .inr (.inl hv)
      · exact .inr (.inr hv)
    · exact he
  · show E23 (if _ then _ else _)
    split
    · exact .inr (.inr rfl)
    · exact .inl rfl
theorem tWords_23 {m : Int} {s : List UInt8} {e : Int} (he : E23 e) : E23 (tWords m s e).2.2 := by
  have h1 := tOne_23 (l := 1) (h := m) (s := s) he
  unfold tWords
  split
  · show E23 (if _ then _ else _)
    split
    · exact .inr (.inl rfl)
    · exact h1
  · exact h1
theorem tCtx_23 {r : Int} {s : List UInt8} {e : Int} (he : E23 e) : ∀ i, E23 (tCtx r s e i).2.2
  | 0 => he
  | i + 1 => by
    have ih := tCtx_23 (r := r) (s := s) he i
    show E23 (tStep r i (tCtx r s e i)).2.2
    unfold tStep
    split
    · exact tNum_23 ih
    · exact ih
theorem tKeyE_23 {k : List UInt8} {e : Int} (he : E23 e) : E23 (tKeyE k e) := by
  unfold tKeyE
  split
  · exact he
  · split
    · exact .inr (.inr rfl)
    · exact he
theorem f6_23 {k r n : Int} {c : Clk} {h : Int} {y : List UInt8 × List UInt8 × Int} (he : E23 y.2.2) : E23 (f6 k r n c h y).2.2 := by
  have h6 := tKeyE_23 (k := y.1) he
  unfold f6
  split
  · exact tWords_23 (tOne_23 h6)
  · exact h6
theorem takeE_23 (b : List UInt8) : E23 (takeE b).2.2 := by
  have h : E23 (takeS b).2.2 := by
    rw [takeS_f]
    unfold f1 f2 f3 f4 f5
    refine f6_23 ?_
    refine tWords_23 ?_
    refine tNum_23 ?_
    refine tCtx_23 ?_ 5
    refine tNum_23 ?_
    refine tOne_23 ?_
    exact tOne_23 (.inl rfl)
  unfold takeE takeFin
  split
  · exact h
  · exact .inl rfl
end Go.Proofs.Ytbcpabfemejlgaa
/- kithlaw06.EventCuts: the walk. -/
namespace Go.Proofs.Ytbcpabfemejlgaa
open K
set_option maxRecDepth 100000
set_option maxHeartbeats 4000000

theorem Sl.pre {w : World} {a : Option Addr} {c : Nat} {b : List UInt8} (h : Cells w a (u8s b)) (hc : b.length ≤ c) (i : Nat) (hi : i ≤ b.length) : Sl w (.slice a ((i : Int)).toNat c) (b.take i) :=
  ⟨a, c, by rw [List.length_take, Nat.min_eq_left hi]; rfl, by rw [List.length_take]; omega, h.takeb i⟩
theorem c_eCut (x : Ev) (hk : EvOk x) (i : Nat) (hi : i < (putE x).length) (v : Value) (w : World) (hs : Sl w v ((putE x).take i)) : Cl Try.prog 58 #[v] w (fun r w' => r = .tuple #[.agg (evC evZ).toArray, .int .i64 0, .int .i64 2] ∧ Chg No w w') := by
  have h44 := putE_le x hk
  have h := c_eTake ((putE x).take i) (by rw [List.length_take]; omega) v w hs
  rw [takeE_cut x hk i hi] at h
  exact h
theorem i64_small {n : Int} (h0 : -100000000 ≤ n) (h1 : n ≤ 100000000) : i64 n := ⟨by omega, by omega⟩
theorem evW_of {x : Ev} (hk : EvOk x) : EvW x := by
  have h1 := hk.k1; have h2 := hk.k5; have h3 := hk.r0; have h4 := hk.r5; have h5 := hk.n1; have h6 := hk.n2; have h7 := hk.h1; have h8 := hk.h2
  have h9 := hk.key8; have h10 := hk.v12; have h11 := hk.l0; have h12 := hk.l2
  have c0 : 0 ≤ x.c.c0 ∧ x.c.c0 ≤ 1048576 := hk.c 0 (by decide)
  have c1 : 0 ≤ x.c.c1 ∧ x.c.c1 ≤ 1048576 := hk.c 1 (by decide)
  have c2 : 0 ≤ x.c.c2 ∧ x.c.c2 ≤ 1048576 := hk.c 2 (by decide)
  have c3 : 0 ≤ x.c.c3 ∧ x.c.c3 ≤ 1048576 := hk.c 3 (by decide)
  have c4 : 0 ≤ x.c.c4 ∧ x.c.c4 ≤ 1048576 := hk.c 4 (by decide)
  exact ⟨i64_small (by omega) (by omega), i64_small (by omega) (by omega), i64_small (by omega) (by omega), i64_small (by omega) (by omega), i64_small (by omega) (by omega), i64_small (by omega) (by omega), i64_small (by omega) (by omega), i64_small (by omega) (by omega), i64_small (by omega) (by omega), by unfold maxLen; omega, i64_small (by omega) (by omega), by unfold maxLen; omega⟩
theorem evW_Z : EvW evZ := by
  refine ⟨?_, ?_, ?_, ?_, ?_, ?_, ?_, ?_, ?_, ?_, ?_, ?_⟩ <;> first | exact i64_small (by decide) (by decide) | exact Nat.zero_le _

end Go.Proofs.Ytbcpabfemejlgaa
/- kithlaw06.EventBack: the walk. -/
namespace Go.Proofs.Ytbcpabfemejlgaa
open K
set_option maxRecDepth 100000
set_option maxHeartbeats 4000000

theorem c_eBack (x : Ev) (hk : EvOk x) (s : List UInt8) (hs44 : s.length ≤ 80) (v : Value) (w : World) (hs : Sl w v (putE x ++ s)) : Cl Try.prog 58 #[v] w (fun r w' => r = .tuple #[.agg (evC x).toArray, .int .i64 (putE x).length, .int .i64 0] ∧ Chg No w w') := by
  have h44 := putE_le x hk
  have h := c_eTake (putE x ++ s) (by rw [List.length_append]; omega) v w hs
  rw [takeE_put x hk s] at h
  exact h
theorem Sl.cast {w : World} {a : Option Addr} {n c : Nat} {b : List UInt8} (hn : n = b.length) (hc : n ≤ c) (h : Cells w a (u8s b)) : Sl w (.slice a n c) b := by
  subst hn; exact ⟨a, c, rfl, hc, h⟩

theorem evMay_of {x : Ev} (hk : EvOk x) : evMay x = 0 := by
  have hh : evHead x = true := by
    simp only [evHead, Bool.and_eq_true, decide_eq_true_eq]
    exact ⟨⟨⟨⟨⟨⟨⟨hk.r0, hk.r5⟩, hk.n1⟩, hk.n2⟩, hk.own⟩, hk.h1⟩, hk.h2⟩, (Clk.all_iff _ _).2 fun i hi => by have := hk.c i hi; simp [inEv]; omega⟩
  refine (if_pos hh).trans ?_
  have hk1 := hk.k1
  have hk5 := hk.k5
  have h1 : tKey x.key = 0 := if_pos (by simp only [keyOk, Bool.and_eq_true, decide_eq_true_eq]; exact ⟨⟨hk.key1, hk.key8⟩, hk.keya⟩)
  refine (if_neg (show ¬ (x.kind < 1 ∨ 5 < x.kind) by omega)).trans ?_
  refine (if_neg (show ¬ tKey x.key ≠ 0 by rw [h1]; decide)).trans ?_
  by_cases hb : x.kind ≤ 2
  · refine (if_pos (show x.kind ≤ 2 from hb)).trans ?_
    refine (if_neg (show ¬ x.label ≠ 0 by rw [(hk.bare hb).1]; decide)).trans ?_
    exact if_neg (show ¬ x.val ≠ [] by rw [(hk.bare hb).2]; decide)
  · refine (if_neg (show ¬ x.kind ≤ 2 from hb)).trans ?_
    have h2 : tLabel x.label = 0 := if_pos ⟨hk.l0, hk.l2⟩
    exact (if_neg (show ¬ tLabel x.label ≠ 0 by rw [h2]; decide)).trans (if_pos ⟨hk.v1 (by omega), hk.v12⟩)
end Go.Proofs.Ytbcpabfemejlgaa
