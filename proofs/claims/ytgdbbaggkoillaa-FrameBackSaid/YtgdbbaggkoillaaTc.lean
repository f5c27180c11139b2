/- event.Take: the walk. -/
import Derived.Test.YtgdbbaggkoillaaTb
import Derived.Test.YtgdbbaggkoillaaEz
namespace Go.Proofs.Ytgdbbaggkoillaa
open K
set_option maxRecDepth 100000
set_option maxHeartbeats 4000000

theorem retc3 {P : Program} {fn : Func} {R : Value → World → Prop} {e : Env} {w : World} {t t' t'' T T1 T' T1' b b' n : Nat} {cs : List Value} {v u : Value} [h' : Ag P T n] [h1 : Sc P T'] (h : fn.results.toList = [.cell t T, .tmp t', .cell t'' T']) (hv : e t = .pointer (some ⟨b, 0, none⟩)) (hb : w.heap[b]? = some (.cells cs.toArray T1 (0, 0))) (hn : cs.length = n) (hv' : e t' = v)
    (hv'' : e t'' = .pointer (some ⟨b', 0, none⟩)) (hb' : w.heap[b']? = some (.cells [u].toArray T1' (0, 0))) (hR : R (.tuple #[.agg cs.toArray, v, u]) w) : retE P fn R e w :=
  ⟨[.agg cs.toArray, v, u], by rw [h]; exact ⟨_, _, [v, u], hv, lv_row hb hn, rfl, [u], by rw [hv'], _, _, [], hv'', lv_one hb', rfl, rfl⟩, hR⟩

theorem r_fn4 {P : Program} {e : Env} {w : World} {d : Option Nat} {ty : Nat} {pos : String} {af : Array Edge} {g : Option (Nat × Bool)} {fn : Fn} {x y z t : Operand} {v u p q : Value} (hx : ev e x = v) (hy : ev e y = u) (hz : ev e z = p) (ht : ev e t = q) : (execOp (ev e) ⟨d, .makeFunc fn #[] #[x, y, z, t], ty, pos, af, g⟩).run P w = .ok (.value (.func fn #[] #[v, u, p, q])) w := by
  subst hx; subst hy; subst hz; subst ht; simp [execOp, Instr.makeFunc]

theorem K.Mem.castR {w0 w : World} {bR bE bL bF bO : Nat} {cs cs' : List Value} {e : Int} {v : Value} (h : Mem w0 No w (setN (tkL bR bE bL bF bO cs e v) 0 (bk bR cs' 25))) {cs'' : List Value} (hc : cs' = cs'') : Mem w0 No w (tkL bR bE bL bF bO cs'' e v) := by subst hc; exact h
theorem c_eTake (b : List UInt8) (hl : b.length ≤ 4611686018427387904) (v : Value) (w : World) (hs : Sl w v b) : Cl Try.prog 24 #[v] w (fun r w' => r = .tuple #[.agg (evC (takeE b).1).toArray, .int .i64 (takeE b).2.1, .int .i64 (takeE b).2.2] ∧ Chg No w w') := by
  have hs0 := hs
  obtain ⟨a, c, rfl, hac, H⟩ := hs
  refine f_enter (args := [_]) Try.func24 rfl rfl ?_
  have mm := Mem.nil No w
  refine c_sreg rfl ?_
  refine so (o_al mm fun b2 w2 mm => ?_)
  refine s1 (r_asi rfl) ?_
  refine so (o_al mm fun b3 w3 mm => ?_)
  refine wn ?_
  refine c_sreg rfl ?_
  refine s1 (r_mvs rfl) ?_
  refine so (o_al mm fun b4 w4 mm => ?_)
  refine ss (o_st mm 2 rfl rfl rfl rfl rfl fun w5 mm => ?_)
  refine wn ?_
  refine c_sreg rfl ?_
  refine s1 (r_fn1 rfl) ?_
  refine so (o_al mm fun b6 w6 mm => ?_)
  refine ss (o_st mm 3 rfl rfl rfl rfl rfl fun w7 mm => ?_)
  refine wn ?_
  refine c_sreg rfl ?_
  refine s1 (r_fn3 rfl rfl rfl) ?_
  refine so (o_al mm fun b8 w8 mm => ?_)
  refine ss (o_st mm 4 rfl rfl rfl rfl rfl fun w9 mm => ?_)
  refine wn ?_
  refine c_sreg rfl ?_
  refine s1 (r_fn3 rfl rfl rfl) ?_
  refine s1 (r_asf rfl) ?_
  refine wn ?_
  refine c_sreg rfl ?_
  refine s1 (r_fn4 rfl rfl rfl rfl) ?_
  refine s1 (r_asf rfl) ?_
  refine wn ?_
  have mm : Mem w No w9 (tkL b2 b3 b4 b6 b8 (evC evZ) 0 (.slice a b.length c)) := mm
  have E6 : b6 = b6 := rfl
  unfold takeE
  generalize htk : takeS b = T
  have hTb := htk
  unfold takeS at htk
  have l1 := @tOne_le 1 5 b 0
  generalize hq1 : tOne 1 5 b 0 = q1 at *
  obtain ⟨kd, u1, e1⟩ := q1
  dsimp only at htk l1
  have l2 := @tOne_le 0 4 u1 e1
  generalize hq2 : tOne 0 4 u1 e1 = q2 at *
  obtain ⟨r, u2, e2⟩ := q2
  dsimp only at htk l2
  refine c_sdraw mixed [(0, true), (2, true), (1, false), (4, true), (3, false), (5, false), (6, true), (7, false)] [true, true, true, true, true, true, true, false] (Sof (mm.pk [4] (by decide))) (by kernel_rfl) rfl rfl (by kernel_rfl) (fun w10 hc => ?_)
  have mm := mm.frame hc
  refine p1 rfl (fun w m => r_ld rfl (m.b 0 rfl) rfl) (mm.pk [4] (by decide)) ?_
  refine p1 rfl (fun w m => r_ld rfl (m.b 0 rfl) rfl) (mm.pk [4] (by decide)) ?_
  refine po rfl (o_f23 rfl rfl rfl (hq1 ▸ c_tk2 mm hs0 hl 1 5) ?_)
  rintro _ w11 ⟨v1, rfl, mm, hs1⟩
  refine ⟨fun _ => mm.pk [4] (by decide), ?_⟩
  refine p1 rfl (fun w m => r_fa rfl) (mm.pk [4] (by decide)) ?_
  refine po rfl (o_f23 rfl rfl rfl (hq2 ▸ c_tk2 mm hs1 (by dsimp only; omega) 0 4) ?_)
  rintro _ w12 ⟨v2, rfl, mm, hs2⟩
  refine ⟨fun _ => mm.pk [4] (by decide), ?_⟩
  refine ps rfl (o_st mm 0 rfl rfl rfl rfl rfl fun w13 mm => ⟨fun _ => mm.pk [4] (by decide), ?_⟩)
  refine p1 rfl (fun w m => r_fa rfl) (mm.pk [4] (by decide)) ?_
  refine ps rfl (o_st mm 0 rfl rfl rfl rfl rfl fun w14 mm => ⟨fun h => absurd rfl h, ?_⟩)
  refine pn ?_
  have mm : Mem w No w14 (tkL b2 b3 b4 b6 b8 (evC ⟨r, 0, clk0, 0, kd, [], 0, []⟩) e2 v2) := mm
  have l3 := @tNum_le 1 1048576 u2 e2
  generalize hq3 : tNum 1 1048576 u2 e2 = q3 at *
  obtain ⟨n, u3, e3⟩ := q3
  dsimp only at htk l3
  refine c_sreg rfl ?_
  refine s1 (r_mvf rfl) ?_
  refine so (o_f23 rfl rfl rfl (hq3 ▸ c_tk3 mm hs2 (by dsimp only; omega) 1 1048576 (by decide) (by decide) (by decide) (by decide)) ?_)
  rintro _ w15 ⟨v3, rfl, mm, hs3⟩
  refine s1 (r_fa rfl) ?_
  refine ss (o_st mm 0 rfl rfl rfl rfl rfl fun w16 mm => ?_)
  refine wn ?_
  have mm : Mem w No w16 (tkL b2 b3 b4 b6 b8 (evC ⟨r, n, clk0, 0, kd, [], 0, []⟩) e3 v3) := mm
  refine c_seq ?_
  refine c_sreg rfl ?_
  refine s1 (r_mvi rfl) ?_
  refine wn ?_
  refine c_block ?_
  refine c_loop (fun k e w' => ∃ (i : Nat) (v : Value), k + i = 5 ∧ e 0 = .slice a b.length c ∧ e 2 = .pointer (some ⟨b2, 0, none⟩) ∧ e 4 = .pointer (some ⟨b3, 0, none⟩) ∧ e 5 = .pointer (some ⟨b4, 0, none⟩) ∧ e 6 = .pointer (some ⟨b6, 0, none⟩) ∧ e 7 = .pointer (some ⟨b8, 0, none⟩) ∧
      e 8 = .func (.func 52) #[] #[.pointer (some ⟨b4, 0, none⟩), .pointer (some ⟨b3, 0, none⟩), .pointer (some ⟨b6, 0, none⟩)] ∧ e 9 = .func (.func 53) #[] #[.pointer (some ⟨b8, 0, none⟩), .pointer (some ⟨b3, 0, none⟩), .pointer (some ⟨b4, 0, none⟩), .pointer (some ⟨b6, 0, none⟩)] ∧ e 25 = .int .i64 i ∧
      Mem w No w' (tkL b2 b3 b4 b6 b8 (evC ⟨r, n, (tCtx r u3 e3 i).1, 0, kd, [], 0, []⟩) (tCtx r u3 e3 i).2.2 v) ∧ Sl w v (tCtx r u3 e3 i).2.1) 5 ?_ ?_
  · exact ⟨0, v3, rfl, rfl, rfl, rfl, rfl, rfl, rfl, rfl, rfl, rfl, mm, hs3⟩
  clear mm hc
  rintro k e w9 ⟨i, v4, hki, h0, h2, h4, h5, h6, h7, h8, h9, h25, mm, hs4⟩
  have l4 := @tCtx_le r u3 e3 i
  refine c_sreg rfl ?_
  refine s1 (r_lt h25 rfl) ?_
  refine wn ?_
  refine c_seq ?_
  refine c_cond rfl (fun h => (c_skip (t_n ?_))) (fun h => (c_exit (t_x (t_x (b_x (t_n ?_))))))
  · have hi : i < 5 := by simp at h; omega
    clear h
    refine c_seq ?_
    refine c_block ?_
    refine c_sreg rfl ?_
    refine s1 (r_mvi h25) ?_
    refine s1 (r_asi rfl) ?_
    refine wn ?_
    refine c_sreg rfl ?_
    refine s1 (r_mvi rfl) ?_
    refine s1 (r_fa h2) ?_
    refine s1 (r_ld rfl (mm.b 0 rfl) rfl) ?_
    refine s1 (r_ne rfl rfl) ?_
    refine wn ?_
    have hst : tCtx r u3 e3 (i + 1) = tStep r i (tCtx r u3 e3 i) := rfl
    generalize tCtx r u3 e3 i = q at *
    obtain ⟨cc, u4, e4⟩ := q
    dsimp only at l4
    refine c_cond rfl (fun h => ?_) (fun h => (c_skip (b_n (t_n ?_))))
    · have hne : (i : Int) ≠ r := by simpa using h
      unfold tStep at hst
      rw [if_pos hne] at hst
      refine c_region rfl ?_
      refine s1 (r_mvi rfl) ?_
      refine s1 (r_mvf h8) ?_
      refine so (o_f23 rfl rfl rfl (c_tk3 mm hs4 (by dsimp only; omega) 0 1048576 (by decide) (by decide) (by decide) (by decide)) ?_)
      rintro _ w17 ⟨v5, rfl, mm, hs5⟩
      refine s1 (r_fa h2) ?_
      refine s1 (r_ixa rfl rfl (by omega) (by omega)) ?_
      refine ss (o_st mm 0 rfl rfl rfl rfl (blt_evi _ i hi) fun w18 mm => ?_)
      refine wn (b_n (t_n ?_))
      have mm := mm.castR (setN_evi _ i hi _)
      refine c_region rfl ?_
      refine s1 (r_add h25 rfl (wi (by omega) (by omega))) ?_
      refine s1 (r_mvi rfl) ?_
      refine wn (t_n ?_)
      refine ⟨k - 1, by omega, i + 1, v5, by omega, h0, h2, h4, h5, h6, h7, h8, h9, rfl, ?_, ?_⟩
      · rw [hst]; exact mm
      · rw [hst]; exact hs5
    · have hne : ¬ (i : Int) ≠ r := by simpa using h
      unfold tStep at hst
      rw [if_neg hne] at hst
      refine c_region rfl ?_
      refine s1 (r_add h25 rfl (wi (by omega) (by omega))) ?_
      refine s1 (r_mvi rfl) ?_
      refine wn (t_n ?_)
      refine ⟨k - 1, by omega, i + 1, v4, by omega, h0, h2, h4, h5, h6, h7, h8, h9, rfl, ?_, ?_⟩
      · rw [hst]; exact mm
      · rw [hst]; exact hs4
  have hi : i = 5 := by simp at h; omega
  subst hi
  clear h h25
  generalize tCtx r u3 e3 5 = q4 at *
  obtain ⟨cc, u4, e4⟩ := q4
  dsimp only at l4 htk
  have l5 := @tNum_le 1 16777216 u4 e4
  generalize hq5 : tNum 1 16777216 u4 e4 = q5 at *
  obtain ⟨hh, u5, e5⟩ := q5
  dsimp only at htk l5
  refine c_sreg rfl ?_
  refine s1 (r_mvf h8) ?_
  refine so (o_f23 rfl rfl rfl (hq5 ▸ c_tk3 mm hs4 (by dsimp only; omega) 1 16777216 (by decide) (by decide) (by decide) (by decide)) ?_)
  rintro _ w19 ⟨v5, rfl, mm, hs5⟩
  refine s1 (r_fa h2) ?_
  refine ss (o_st mm 0 rfl rfl rfl rfl rfl fun w20 mm => ?_)
  refine wn ?_
  have mm := mm.castR (cs'' := evC ⟨r, n, cc, hh, kd, [], 0, []⟩) rfl
  have l6 := @tWords_le 8 u5 e5
  generalize hq6 : tWords 8 u5 e5 = q6 at *
  obtain ⟨key, u6, e6⟩ := q6
  dsimp only at htk l6
  refine c_seq ?_
  refine c_sreg rfl ?_
  refine s1 (r_mvf h9) ?_
  refine so (o_f14 rfl rfl (hq6 ▸ c_tk4 mm hs5 (by dsimp only; omega) 8) ?_)
  rintro _ w21 ⟨v6, rfl, mm, hs6⟩
  refine s1 (r_fa h2) ?_
  refine ss (o_st mm 0 rfl rfl rfl rfl rfl fun w22 mm => ?_)
  refine wn ?_
  have mm := mm.castR (cs'' := evC ⟨r, n, cc, hh, kd, key, 0, []⟩) rfl
  refine c_sreg rfl ?_
  refine s1 (r_fa h2) ?_
  refine s1 (r_ld rfl (mm.b 0 rfl) rfl) ?_
  refine so (o_c1 rfl (c_tKey key _) ?_)
  rintro _ w23 ⟨rfl, hc⟩
  have mm := mm.frame hc
  refine s1 (r_ne rfl rfl) ?_
  refine wn ?_
  refine c_mid0 (fun e w' => e 0 = .slice a b.length c ∧ e 2 = .pointer (some ⟨b2, 0, none⟩) ∧ e 4 = .pointer (some ⟨b3, 0, none⟩) ∧ e 5 = .pointer (some ⟨b4, 0, none⟩) ∧ e 7 = .pointer (some ⟨b8, 0, none⟩) ∧ e 9 = .func (.func 53) #[] #[.pointer (some ⟨b8, 0, none⟩), .pointer (some ⟨b3, 0, none⟩), .pointer (some ⟨b4, 0, none⟩), .pointer (some ⟨b6, 0, none⟩)] ∧ Mem w No w' (tkL b2 b3 b4 b6 b8 (evC ⟨r, n, cc, hh, kd, key, 0, []⟩) (tKeyE key e6) v6)) ?_ ?_
  · refine c_cond rfl (fun h => ?_) (fun h => (c_skip (t_n ?_)))
    · have hk : ¬ keyOk key = true := fun hk => by
        rw [show tKey key = 0 from if_pos hk] at h
        cases h
      have hke : tKeyE key e6 = if e6 = 0 then 3 else e6 := if_neg hk
      rw [hke]
      refine c_region rfl ?_
      refine s1 (r_ld h6 (mm.b 3 rfl) rfl) ?_
      refine so (o_f11 rfl rfl (c_tk1 mm 3) ?_)
      rintro _ w24 ⟨rfl, mm⟩
      refine wn (t_n ?_)
      exact ⟨h0, h2, h4, h5, h7, h9, mm⟩
    · have hk : keyOk key = true := by
        refine Classical.byContradiction fun hk => ?_
        rw [show tKey key = 10 from if_neg hk] at h
        cases h
      have hke : tKeyE key e6 = e6 := if_pos hk
      rw [hke]
      exact ⟨h0, h2, h4, h5, h7, h9, mm⟩
  clear h0 h2 h4 h5 h6 h7 h8 h9 mm hc
  rintro e w9 ⟨h0, h2, h4, h5, h7, h9, mm⟩
  generalize tKeyE key e6 = ek at *
  refine c_seq ?_
  refine c_sreg rfl ?_
  refine s1 (r_fa h2) ?_
  refine s1 (r_ld rfl (mm.b 0 rfl) rfl) ?_
  refine s1 (r_gt rfl rfl) ?_
  refine wn ?_
  refine c_mid0 (fun e w' => ∃ (x : Ev) (u : List UInt8) (er : Int) (v : Value), T = (x, u, er) ∧ e 0 = .slice a b.length c ∧ e 2 = .pointer (some ⟨b2, 0, none⟩) ∧ e 4 = .pointer (some ⟨b3, 0, none⟩) ∧ e 5 = .pointer (some ⟨b4, 0, none⟩) ∧ Mem w No w' (tkL b2 b3 b4 b6 b8 (evC x) er v) ∧ Sl w v u ∧ u.length ≤ b.length) ?_ ?_
  · refine c_cond rfl (fun h => ?_) (fun h => (c_skip (t_n ?_)))
    · have hk : 2 < kd := by simpa using h
      rw [if_pos hk] at htk
      have l7 := @tOne_le 0 1 u6 ek
      generalize hq7 : tOne 0 1 u6 ek = q7 at *
      obtain ⟨lb, u7, e7⟩ := q7
      dsimp only at htk l7
      refine c_sreg rfl ?_
      refine s1 (r_ld h7 (mm.b 4 rfl) rfl) ?_
      refine so (o_f23 rfl rfl rfl (hq7 ▸ c_tk2 mm hs6 (by dsimp only; omega) 0 1) ?_)
      rintro _ w25 ⟨v7, rfl, mm, hs7⟩
      refine s1 (r_fa h2) ?_
      refine ss (o_st mm 0 rfl rfl rfl rfl rfl fun w26 mm => ?_)
      refine wn ?_
      have mm := mm.castR (cs'' := evC ⟨r, n, cc, hh, kd, key, lb, []⟩) rfl
      have l8 := @tWords_le 12 u7 e7
      generalize hq8 : tWords 12 u7 e7 = q8 at *
      obtain ⟨vl, u8', e8⟩ := q8
      dsimp only at htk l8
      refine c_region rfl ?_
      refine s1 (r_mvf h9) ?_
      refine so (o_f14 rfl rfl (hq8 ▸ c_tk4 mm hs7 (by dsimp only; omega) 12) ?_)
      rintro _ w27 ⟨v8, rfl, mm, hs8⟩
      refine s1 (r_fa h2) ?_
      refine ss (o_st mm 0 rfl rfl rfl rfl rfl fun w28 mm => ?_)
      refine wn (t_n ?_)
      have mm := mm.castR (cs'' := evC ⟨r, n, cc, hh, kd, key, lb, vl⟩) rfl
      exact ⟨_, _, _, _, htk.symm, h0, h2, h4, h5, mm, hs8, by omega⟩
    · have hk : ¬ 2 < kd := by simpa using h
      rw [if_neg hk] at htk
      exact ⟨_, _, _, _, htk.symm, h0, h2, h4, h5, mm, hs6, by omega⟩
  clear htk h0 h2 h4 h5 h7 h9 mm
  trace_state
  rintro e w9 ⟨x, u, er, v, hT, h0, h2, h4, h5, mm, hs9, l9⟩
  have hT2 : takeS b = (x, u, er) := hTb.trans hT
  subst hT
  refine c_seq ?_
  refine c_sreg rfl ?_
  refine s1 (r_ld h4 (mm.b 1 rfl) rfl) ?_
  refine s1 (r_ne rfl rfl) ?_
  refine wn ?_
  refine c_cond rfl (fun h => ?_) (fun h => (c_skip (t_n ?_)))
  · have hz : er ≠ 0 := by simpa using h
    unfold takeFin
    rw [if_pos hz]
    refine c_sdraw mixed [(0, true), (1, true), (2, false), (3, true), (4, false)] [true, true, true, true, false] (Sof (mm.pk [2, 1] (by decide))) (by kernel_rfl) rfl rfl (by kernel_rfl) (fun w29 hc => ?_)
    have mm := mm.frame hc
    refine p1 rfl (fun w m => r_bd bN rfl) (mm.pk [2, 1] (by decide)) ?_
    refine p1 rfl (fun w m => r_ld h4 (m.b 1 rfl) rfl) (mm.pk [2, 1] (by decide)) ?_
    refine ps rfl (o_sta mm 0 rfl h2 rfl rfl rfl (Nat.le_of_ble_eq_true rfl) fun w30 mm => ⟨fun _ => mm.pk [2, 1] (by decide), ?_⟩)
    refine p1 rfl (fun w m => r_asi rfl) (mm.pk [2, 1] (by decide)) ?_
    refine ps rfl (o_st mm 1 rfl h4 rfl rfl rfl fun w31 mm => ⟨fun h => absurd rfl h, ?_⟩)
    refine pn ?_
    exact c_ret (retc3 rfl h2 (mm.b 0 rfl) rfl rfl h4 (mm.b 1 rfl) ⟨rfl, mm.chg⟩)
  have hz : er = 0 := by simpa using h
  subst hz
  have hok := takeS_in b (by rw [hT2])
  rw [hT2] at hok
  have i1 : 0 ≤ x.r := hok.r0
  have i2 : x.r < 5 := hok.r5
  have i3 : 1 ≤ x.n := hok.n1
  have i4 : x.n ≤ 1048576 := hok.n2
  obtain ⟨a', c', rfl, _, _⟩ := hs9
  unfold takeFin
  rw [if_neg (by simp)]
  refine c_sreg rfl ?_
  refine s1 (r_fa h2) ?_
  refine s1 (r_ld rfl (mm.b 0 rfl) rfl) ?_
  refine s1 (r_fa h2) ?_
  refine s1 (r_ld rfl (mm.b 0 rfl) rfl) ?_
  refine s1 (r_sub rfl rfl (wi (by omega) (by omega))) ?_
  refine s1 (r_fa h2) ?_
  refine s1 (r_ixa rfl rfl i1 i2) ?_
  refine ss (o_st mm 0 rfl rfl rfl rfl (blt_evr _ _ i1 i2) fun w32 mm => ?_)
  refine wn ?_
  have mm := mm.castR (setN_evr _ _ i1 i2 _)
  refine c_sdraw mixed [(0, true), (1, true), (2, true), (3, true), (4, true), (5, true), (6, false), (7, true), (8, false)] [true, true, true, true, true, true, true, true, false] (Sof mm) (by kernel_rfl) rfl rfl (by kernel_rfl) (fun w33 hc => ?_)
  have mm := mm.frame hc
  refine p1 rfl (fun w m => r_lda h2 (m.b 0 rfl) rfl) mm ?_
  refine p1 rfl (fun w m => r_mvs h0) mm ?_
  refine p1 rfl (fun w m => r_len rfl) mm ?_
  refine p1 rfl (fun w m => r_ld h5 (m.b 2 rfl) rfl) mm ?_
  refine p1 rfl (fun w m => r_len rfl) mm ?_
  refine p1 rfl (fun w m => r_sub rfl rfl (show IntKind.i64.wrap ((b.length : Int) - (u.length : Int)) = ((b.length - u.length : Nat) : Int) from by rw [wi (by omega) (by omega)]; omega)) mm ?_
  refine ps rfl (o_sta mm 0 rfl h2 rfl rfl rfl (Nat.le_of_ble_eq_true rfl) fun w34 mm => ⟨fun _ => mm, ?_⟩)
  refine p1 rfl (fun w m => r_asi rfl) mm ?_
  refine ps rfl (o_st mm 1 rfl h4 rfl rfl rfl fun w35 mm => ⟨fun h => absurd rfl h, ?_⟩)
  refine pn ?_
  exact c_ret (retc3 rfl h2 (mm.b 0 rfl) rfl rfl h4 (mm.b 1 rfl) ⟨rfl, mm.chg⟩)
end Go.Proofs.Ytgdbbaggkoillaa

