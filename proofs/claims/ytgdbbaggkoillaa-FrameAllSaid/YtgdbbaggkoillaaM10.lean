/- kithref06.Take: the walk. -/
import Derived.Test.YtgdbbaggkoillaaM9
import Derived.Test.YtgdbbaggkoillaaM8
import Derived.Test.YtgdbbaggkoillaaM7
import Derived.Carry
import Derived.Test.YtgdbbaggkoillaaM3
import Derived.Test.YtgdbbaggkoillaaM5
import Derived.Test.YtgdbbaggkoillaaM2
import Derived.KernelRfl
import Derived.Test.YtgdbbaggkoillaaM6
namespace Go.Proofs.Ytgdbbaggkoillaa
open K
set_option maxRecDepth 100000
set_option maxHeartbeats 4000000

theorem rdpos {e e' v hi : Int} (h : e = 0 → e' = 0 ∧ 1 ≤ v ∧ v ≤ hi) : e = 0 → 0 ≤ v := fun he => by have := h he; omega
theorem ctxB_pre (x : Ev) (i : Nat) (hi : i ≤ 5) : ∃ u, ctxB x 5 = ctxB x i ++ u := by
  obtain ⟨d, hd⟩ : ∃ d, i + d = 5 := ⟨5 - i, by omega⟩
  rw [← hd]
  clear hd hi
  induction d with
  | zero => exact ⟨[], (List.append_nil _).symm⟩
  | succ d ih =>
    obtain ⟨u, hu⟩ := ih
    refine ⟨u ++ (if ((i + d : Nat) : Int) ≠ x.r then vput (x.c.get (i + d)).toNat else []), ?_⟩
    show ctxB x (i + d + 1) = _
    rw [ctxB_succ, hu, List.append_assoc]
theorem nth_evi2 (y : Ev) (i : Nat) (hi : i < 5) (v : Int) : setN (evC y) (0 + 2 + ((i : Nat) : Int).toNat * 1) (.int .i64 v) = evC { y with c := y.c.set i v } := by
  match i, hi with
  | 0, _ => rfl | 1, _ => rfl | 2, _ => rfl | 3, _ => rfl | 4, _ => rfl
theorem blt_ev (y : Ev) (i : Nat) (hi : i < 5) : Nat.blt (0 + 2 + ((i : Nat) : Int).toNat * 1) (evC y).length = true := by
  match i, hi with
  | 0, _ => rfl | 1, _ => rfl | 2, _ => rfl | 3, _ => rfl | 4, _ => rfl
theorem c_take06 (s : List UInt8) (hl : s.length ≤ 4611686018427387904) (v : Value) (w : World) (hs : Sl w v s) : Cl Try.prog 88 #[v] w
    (fun r w' => ∃ (e : Ev) (k : Nat) (cd : Int), r = .tuple #[.agg (evC e).toArray, .int .i64 (k : Nat), .int .i64 cd] ∧ k ≤ s.length ∧ ((takeE s).2.2 = 0 → e = (takeE s).1 ∧ ((k : Nat) : Int) = (takeE s).2.1 ∧ cd = 0) ∧ Chg No w w') := by
  obtain ⟨a, c, rfl, hcc, H⟩ := hs
  obtain ⟨G, x, rest, hG, hGn⟩ : ∃ (G : Prop) (x : Ev) (rest : List UInt8), (G → EvOk x ∧ s = putE x ++ rest ∧ takeE s = (x, ((putE x).length : Int), 0)) ∧ ((takeE s).2.2 = 0 → G) := by
    refine ⟨(takeE s).2.2 = 0, (takeE s).1, s.drop (putE (takeE s).1).length, fun g => ?_, id⟩
    rcases takeE_any s with ⟨h0, h1, h2, h3, h4⟩ | ⟨h0, _⟩
    · refine ⟨h1, ?_, ?_⟩
      · conv => lhs; rw [← List.take_append_drop (putE (takeE s).1).length s, h4]
      · rw [← h2, ← h0]
    · exact absurd g h0
  obtain ⟨t6, ht6⟩ : ∃ t, t = (if 2 < x.kind then UInt8.ofNat x.label.toNat :: (UInt8.ofNat x.val.length :: x.val) else []) ++ rest := ⟨_, rfl⟩
  obtain ⟨t5, ht5⟩ : ∃ t, t = UInt8.ofNat x.key.length :: (x.key ++ t6) := ⟨_, rfl⟩
  obtain ⟨t4, ht4⟩ : ∃ t, t = vput x.h.toNat ++ t5 := ⟨_, rfl⟩
  obtain ⟨t3, ht3⟩ : ∃ t, t = ctxB x 5 ++ t4 := ⟨_, rfl⟩
  obtain ⟨t2, ht2⟩ : ∃ t, t = vput x.n.toNat ++ t3 := ⟨_, rfl⟩
  have hs0 : G → s.drop 0 = UInt8.ofNat x.kind.toNat :: (UInt8.ofNat x.r.toNat :: t2) := fun g => by
    rw [List.drop_zero, (hG g).2.1, putE_eq, ht2, ht3, ht4, ht5, ht6]
    simp only [List.cons_append, List.append_assoc]
  refine f_enter (args := [_]) Try.func88 rfl rfl ?_
  have mm := Mem.nil No w
  refine c_sreg rfl ?_
  refine so (o_al mm fun b2 w2 mm => ?_)
  refine s1 (r_asi rfl) ?_
  refine s1 (r_asi rfl) ?_
  refine wn ?_
  refine c_sreg rfl ?_
  refine s1 (r_mvs rfl) ?_
  refine s1 (r_bd (bs rfl bN) rfl) ?_
  refine so (o_bxa mm rfl fun b3 w3 mm => ?_)
  refine s1 (r_asp rfl) ?_
  refine wn ?_
  refine c_sreg rfl ?_
  refine s1 (r_bd bN rfl) ?_
  refine so (o_al mm fun b4 w4 mm => ?_)
  refine ss (o_sta mm 2 rfl rfl rfl rfl rfl (Nat.le_of_ble_eq_true rfl) fun w5 mm => ?_)
  refine wn ?_
  have mm : Mem w No _ [bk b2 (evC evZ) 25, rdI b3 a s.length c 0 0, bk b4 (evC evZ) 25] := mm
  refine c_sreg rfl ?_
  refine s1 (r_mvp rfl) ?_
  refine so (o_c3 rfl rfl rfl (c_rd1 mm (k := 1) rfl (Nat.zero_le _) hl H 1 5) ?_)
  rintro _ w6 ⟨v1, p1, e1, rfl, mm, hp1, hs1, hg1⟩
  skip
  refine s1 (r_fa rfl) ?_
  refine ss (o_st mm 2 rfl rfl rfl rfl rfl fun w7 mm => ?_)
  refine wn ?_
  have mm : Mem w No _ [bk b2 (evC evZ) 25, rdI b3 a s.length c p1 e1, bk b4 (evC ⟨0, 0, clk0, 0, v1, [], 0, []⟩) 25] := mm
  have g1 : G → v1 = x.kind ∧ e1 = 0 ∧ s.drop p1 = UInt8.ofNat x.r.toNat :: t2 := fun g => by
    have ok := (hG g).1
    have h1 := ok.k1; have h5 := ok.k5
    exact hg1 _ _ rfl (by rw [hs0 g]; exact tOne_put x.kind (by omega) (by omega) (by omega) (by omega))
  clear hg1 hs0
  refine c_sreg rfl ?_
  refine s1 (r_mvp rfl) ?_
  refine so (o_c3 rfl rfl rfl (c_rd1 mm (k := 1) rfl hp1 hl H 0 4) ?_)
  rintro _ w8 ⟨v2, p2, e2, rfl, mm, hp2, hs2, hg2⟩
  skip
  refine s1 (r_fa rfl) ?_
  refine ss (o_st mm 2 rfl rfl rfl rfl rfl fun w9 mm => ?_)
  refine wn ?_
  have mm : Mem w No _ [bk b2 (evC evZ) 25, rdI b3 a s.length c p2 e2, bk b4 (evC ⟨v2, 0, clk0, 0, v1, [], 0, []⟩) 25] := mm
  have g2 : G → v2 = x.r ∧ e2 = 0 ∧ s.drop p2 = t2 := fun g => by
    have ok := (hG g).1
    have h1 := ok.r0; have h5 := ok.r5
    exact hg2 _ _ (g1 g).2.1 (by rw [(g1 g).2.2]; exact tOne_put x.r (by omega) (by omega) (by omega) (by omega))
  clear hg2
  refine c_sreg rfl ?_
  refine s1 (r_mvp rfl) ?_
  refine so (o_c3 rfl rfl rfl (c_rdN mm (k := 1) rfl hp2 hcc hl H 1 1048576 (by decide) (by decide) (by decide) (by decide)) ?_)
  rintro _ w10 ⟨v3, p3, e3, rfl, mm, hp3, hs3, hg3⟩
  skip
  refine s1 (r_fa rfl) ?_
  refine ss (o_st mm 2 rfl rfl rfl rfl rfl fun w11 mm => ?_)
  refine wn ?_
  have mm : Mem w No _ [bk b2 (evC evZ) 25, rdI b3 a s.length c p3 e3, bk b4 (evC ⟨v2, v3, clk0, 0, v1, [], 0, []⟩) 25] := mm
  have g3 : G → v3 = x.n ∧ e3 = 0 ∧ s.drop p3 = t3 := fun g => by
    have ok := (hG g).1
    have h1 := ok.n1; have h5 := ok.n2
    exact hg3 _ _ (g2 g).2.1 (by rw [(g2 g).2.2, ht2]; exact tNum_put x.n (by omega) (by omega) (by omega) (by omega))
  clear hg3
  refine c_seq ?_
  refine c_sreg rfl ?_
  refine s1 (r_asi rfl) ?_
  refine wn ?_
  refine c_block ?_
  refine c_loop (fun kk e w' => ∃ (i : Nat) (cl : Clk) (p : Nat) (er : Int), kk + i = 5 ∧ e 2 = .pointer (some ⟨b2, 0, none⟩) ∧ e 3 = .int .i64 0 ∧ e 4 = .int .i64 0 ∧ e 5 = .pointer (some ⟨b3, 0, none⟩) ∧ e 6 = .pointer (some ⟨b4, 0, none⟩) ∧ e 7 = .int .i64 (i : Nat) ∧ Mem w No w' [bk b2 (evC evZ) 25, rdI b3 a s.length c p er, bk b4 (evC ⟨v2, v3, cl, 0, v1, [], 0, []⟩) 25] ∧ p ≤ s.length ∧ (er = 0 → e3 = 0) ∧ (G → er = 0 ∧ (∃ u, ctxB x 5 = ctxB x i ++ u ∧ s.drop p = u ++ t4) ∧ ∀ j, j < 5 → cl.get j = if j < i ∧ (j : Int) ≠ x.r then x.c.get j else 0)) 5 ?_ ?_
  · refine ⟨0, clk0, p3, e3, rfl, rfl, rfl, rfl, rfl, rfl, rfl, mm, hp3, id, fun g => ⟨(g3 g).2.1, ⟨ctxB x 5, rfl, by rw [(g3 g).2.2, ht3]⟩, fun j hj => ?_⟩⟩
    rw [clk0_in, if_neg (by omega)]
  clear mm
  rintro kk e w9 ⟨i, cl, p, er, hki, h2, h3, h4, h5, h6, h7, mm, hp, hse, hge⟩
  refine c_seq ?_
  refine c_sreg rfl ?_
  refine s1 (r_mvi h7) ?_
  refine s1 (r_lt rfl rfl) ?_
  refine wn ?_
  refine c_cond rfl (fun h => (c_skip (t_n ?_))) (fun h => (c_exit (t_x (t_x (b_x (t_n ?_))))))
  · have hi : i < 5 := by simp at h; omega
    clear h
    refine c_seq ?_
    refine c_block ?_
    refine c_sreg rfl ?_
    refine s1 (r_mvi h7) ?_
    refine s1 (r_fa h6) ?_
    refine s1 (r_ld rfl (mm.b 2 rfl) rfl) ?_
    refine s1 (r_ne rfl rfl) ?_
    refine wn ?_
    refine c_mid1 (fun e w' => ∃ (cl : Clk) (p : Nat) (er : Int), e 2 = .pointer (some ⟨b2, 0, none⟩) ∧ e 3 = .int .i64 0 ∧ e 4 = .int .i64 0 ∧ e 5 = .pointer (some ⟨b3, 0, none⟩) ∧ e 6 = .pointer (some ⟨b4, 0, none⟩) ∧ e 7 = .int .i64 (i : Nat) ∧ Mem w No w' [bk b2 (evC evZ) 25, rdI b3 a s.length c p er, bk b4 (evC ⟨v2, v3, cl, 0, v1, [], 0, []⟩) 25] ∧ p ≤ s.length ∧ (er = 0 → e3 = 0) ∧ (G → er = 0 ∧ (∃ u, ctxB x 5 = ctxB x (i + 1) ++ u ∧ s.drop p = u ++ t4) ∧ ∀ j, j < 5 → cl.get j = if j < i + 1 ∧ (j : Int) ≠ x.r then x.c.get j else 0)) ?_ ?_
    · refine c_cond rfl (fun h => ?_) (fun h => (c_skip (t_n ?_)))
      · have hne : (i : Int) ≠ v2 := by simpa using h
        clear h
        refine c_region rfl ?_
        refine s1 (r_mvi h7) ?_
        refine s1 (r_mvp h5) ?_
        refine so (o_c3 rfl rfl rfl (c_rdN mm (k := 1) rfl hp hcc hl H 0 1048576 (by decide) (by decide) (by decide) (by decide)) ?_)
        rintro _ w12 ⟨v4, p4, e4, rfl, mm, hp4, hs4, hg4⟩
        have mm : Mem w No _ [bk b2 (evC evZ) 25, rdI b3 a s.length c p4 e4, bk b4 (evC ⟨v2, v3, cl, 0, v1, [], 0, []⟩) 25] := mm
        refine s1 (r_fa h6) ?_
        refine s1 (r_ixa rfl rfl (by omega) (by omega)) ?_
        refine ss (o_st mm 2 rfl rfl rfl rfl (blt_ev ⟨v2, v3, cl, 0, v1, [], 0, []⟩ i hi) fun w13 mm => ?_)
        refine wn (t_n ?_)
        have mm : Mem w No _ [bk b2 (evC evZ) 25, rdI b3 a s.length c p4 e4, bk b4 (setN (evC ⟨v2, v3, cl, 0, v1, [], 0, []⟩) (0 + 2 + ((i : Nat) : Int).toNat * 1) (.int .i64 v4)) 25] := mm
        rw [nth_evi2 ⟨v2, v3, cl, 0, v1, [], 0, []⟩ i hi] at mm
        refine ⟨cl.set i v4, p4, e4, h2, h3, h4, h5, h6, h7, mm, hp4, fun h => hse (hs4 h).1, fun g => ?_⟩
        obtain ⟨he, ⟨u, hu1, hu2⟩, hcl⟩ := hge g
        have ok := (hG g).1
        have hci := ok.c i hi
        have hr := (g2 g).1
        have hrne : (i : Int) ≠ x.r := by rw [← hr]; exact hne
        obtain ⟨u', hu'⟩ := ctxB_pre x (i + 1) hi
        have hcut : u = vput (x.c.get i).toNat ++ u' := by
          have hsn : ctxB x (i + 1) = ctxB x i ++ vput (x.c.get i).toNat := by rw [ctxB_succ, if_pos hrne]
          have hc := hu1.symm.trans hu'
          rw [hsn, List.append_assoc] at hc
          exact List.append_cancel_left hc
        obtain ⟨q1, q2, q3⟩ := hg4 (x.c.get i) (u' ++ t4) he (by rw [hu2, hcut, List.append_assoc]; exact tNum_put _ hci.1 (by omega) hci.1 hci.2)
        refine ⟨q2, ⟨u', hu', q3⟩, fun j hj => ?_⟩
        rw [Clk.get_set _ _ _ hi hj]
        by_cases hij : i = j
        · subst hij
          rw [if_pos rfl, if_pos ⟨by omega, hrne⟩, q1]
        · rw [if_neg hij, hcl j hj]
          by_cases hji : j < i ∧ (j : Int) ≠ x.r
          · rw [if_pos hji, if_pos ⟨by omega, hji.2⟩]
          · rw [if_neg hji, if_neg (by omega)]
      · have hne : (i : Int) = v2 := by simpa using h
        clear h
        refine ⟨cl, p, er, h2, h3, h4, h5, h6, h7, mm, hp, hse, fun g => ?_⟩
        obtain ⟨he, ⟨u, hu1, hu2⟩, hcl⟩ := hge g
        have hr := (g2 g).1
        have hreq : ¬ (i : Int) ≠ x.r := by rw [← hr]; exact fun hh => hh hne
        have hsn : ctxB x (i + 1) = ctxB x i := by rw [ctxB_succ, if_neg hreq, List.append_nil]
        refine ⟨he, ⟨u, by rw [hsn]; exact hu1, hu2⟩, fun j hj => ?_⟩
        rw [hcl j hj]
        by_cases hji : j < i ∧ (j : Int) ≠ x.r
        · rw [if_pos hji, if_pos ⟨by omega, hji.2⟩]
        · rw [if_neg hji, if_neg (by intro hh; exact hji ⟨by have : j ≠ i := fun e => hreq (by rw [← e]; exact hh.2); omega, hh.2⟩)]
    clear mm h2 h3 h4 h5 h6 h7 hp hse hge
    clear cl p er
    rintro e w9 ⟨cl, p, er, h2, h3, h4, h5, h6, h7, mm, hp, hse, hge⟩
    refine c_region rfl ?_
    refine s1 (r_mvi h7) ?_
    refine s1 (r_add rfl rfl (wi (by omega) (by omega))) ?_
    refine s1 (r_asi rfl) ?_
    refine wn (t_n ?_)
    exact ⟨kk - 1, by omega, i + 1, cl, p, er, by omega, h2, h3, h4, h5, h6, rfl, mm, hp, hse, hge⟩
  have hi : i = 5 := by simp at h; omega
  subst hi
  clear h
  have g4 : G → er = 0 ∧ s.drop p = t4 := fun g => by
    obtain ⟨he, ⟨u, hu1, hu2⟩, hcl⟩ := hge g
    have hu : u = [] := by
      have := congrArg List.length hu1
      rw [List.length_append] at this
      exact List.eq_nil_of_length_eq_zero (by omega)
    rw [hu] at hu2
    exact ⟨he, hu2⟩
  have hclk := fun g => (hge g).2.2
  clear hge
  refine c_sreg rfl ?_
  refine s1 (r_mvp h5) ?_
  refine so (o_c3 rfl rfl rfl (c_rdN mm (k := 1) rfl hp hcc hl H 1 16777216 (by decide) (by decide) (by decide) (by decide)) ?_)
  rintro _ w14 ⟨v5, p5, e5, rfl, mm, hp5, hs5, hg5⟩
  skip
  refine s1 (r_fa h6) ?_
  refine ss (o_st mm 2 rfl rfl rfl rfl rfl fun w15 mm => ?_)
  refine wn ?_
  have mm : Mem w No _ [bk b2 (evC evZ) 25, rdI b3 a s.length c p5 e5, bk b4 (evC ⟨v2, v3, cl, v5, v1, [], 0, []⟩) 25] := mm
  have g5 : G → v5 = x.h ∧ e5 = 0 ∧ s.drop p5 = t5 := fun g => by
    have ok := (hG g).1
    have h1 := ok.h1; have h5 := ok.h2
    exact hg5 _ _ (g4 g).1 (by rw [(g4 g).2, ht4]; exact tNum_put x.h (by omega) (by omega) (by omega) (by omega))
  clear hg5
  refine c_sreg rfl ?_
  refine s1 (r_mvp h5) ?_
  refine s1 (r_mvp h5) ?_
  refine so (o_c3 rfl rfl rfl (c_rd1 mm (k := 1) rfl hp5 hl H 1 8) ?_)
  rintro _ w16 ⟨v6, p6, e6, rfl, mm, hp6, hs6, hg6⟩
  skip
  refine so (o_c2 rfl rfl (c_rdW mm (k := 1) rfl hp6 hcc hl H v6 (rdpos hs6)) ?_)
  rintro _ w17 ⟨v7, p7, e7, rfl, mm, hp7, hs7, hg7⟩
  skip
  refine s1 (r_fa h6) ?_
  refine ss (o_st mm 2 rfl rfl rfl rfl rfl fun w18 mm => ?_)
  refine wn ?_
  have mm : Mem w No _ [bk b2 (evC evZ) 25, rdI b3 a s.length c p7 e7, bk b4 (evC ⟨v2, v3, cl, v5, v1, v7, 0, []⟩) 25] := mm
  have g7 : G → v7 = x.key ∧ e7 = 0 ∧ s.drop p7 = t6 := fun g => by
    have ok := (hG g).1
    have h1 := ok.key1; have h5 := ok.key8
    obtain ⟨q1, q2, q3⟩ := hg6 ((x.key.length : Nat) : Int) (x.key ++ t6) (g5 g).2.1 (by rw [(g5 g).2.2, ht5]; have := tOne_put (l := 1) (h := 8) (s := x.key ++ t6) ((x.key.length : Nat) : Int) (by omega) (by omega) (by omega) (by omega); simpa using this)
    exact hg7 x.key t6 q2 q3 q1
  clear hg6 hg7
  refine c_seq ?_
  refine c_sreg rfl ?_
  refine s1 (r_mvp h5) ?_
  refine s1 (r_nil rfl) ?_
  refine s1 (r_fa rfl) ?_
  refine s1 (r_ld rfl (mm.b 1 rfl) rfl) ?_
  refine s1 (r_eq rfl rfl) ?_
  refine s1 (r_mvb rfl) ?_
  refine sT rfl rfl (fun h => r_fa h6) ?_
  refine sT rfl rfl (fun h => r_ld (sel_t h :) (mm.b 2 rfl) rfl) ?_
  refine sTw (I := Sof mm) rfl rfl mm (fun h => o_c1 (sel_t h :) (c_key5 v7 _) (fun _ _ hh => ⟨hh.1, mm.frame hh.2⟩)) (fun w19 mm => ?_)
  refine sT rfl rfl (fun h => r_ne (sel_t h :) rfl) ?_
  refine s1 (r_and rfl rfl) ?_
  refine wn ?_
  refine c_mid0 (fun e w' => ∃ e8, e 2 = .pointer (some ⟨b2, 0, none⟩) ∧ e 3 = .int .i64 0 ∧ e 4 = .int .i64 0 ∧ e 5 = .pointer (some ⟨b3, 0, none⟩) ∧ e 6 = .pointer (some ⟨b4, 0, none⟩) ∧ Mem w No w' [bk b2 (evC evZ) 25, rdI b3 a s.length c p7 e8, bk b4 (evC ⟨v2, v3, cl, v5, v1, v7, 0, []⟩) 25] ∧ (e8 = 0 → e7 = 0) ∧ (G → e8 = 0)) ?_ ?_
  · refine c_cond rfl (fun h => ?_) (fun h => (c_skip (t_n ?_)))
    · have hne : e7 = 0 ∧ tKey v7 ≠ 0 := by simp at h; exact h
      clear h
      refine c_region rfl ?_
      refine s1 (r_mvp h5) ?_
      refine s1 (r_nil rfl) ?_
      refine s1 (r_fa rfl) ?_
      refine ss (o_st mm 1 rfl rfl rfl rfl rfl fun w20 mm => ?_)
      refine wn (t_n ?_)
      refine ⟨3, h2, h3, h4, h5, h6, mm, fun h => absurd h (by decide), fun g => ?_⟩
      exfalso
      have ok := (hG g).1
      refine hne.2 ?_
      rw [(g7 g).1]
      exact if_pos (by simp only [keyOk, Bool.and_eq_true, decide_eq_true_eq]; exact ⟨⟨ok.key1, ok.key8⟩, ok.keya⟩)
    · exact ⟨e7, h2, h3, h4, h5, h6, mm, id, fun g => (g7 g).2.1⟩
  clear mm h2 h3 h4 h5 h6 h7
  rintro e w9 ⟨e8, h2, h3, h4, h5, h6, mm, hs8, hg8⟩
  refine c_seq ?_
  refine c_sreg rfl ?_
  refine s1 (r_fa h6) ?_
  refine s1 (r_ld rfl (mm.b 2 rfl) rfl) ?_
  refine s1 (r_gt rfl rfl) ?_
  refine wn ?_
  refine c_mid0 (fun e w' => ∃ (lab : Int) (val : List UInt8) (p9 : Nat) (e9 : Int), e 2 = .pointer (some ⟨b2, 0, none⟩) ∧ e 3 = .int .i64 0 ∧ e 4 = .int .i64 0 ∧ e 5 = .pointer (some ⟨b3, 0, none⟩) ∧ e 6 = .pointer (some ⟨b4, 0, none⟩) ∧ Mem w No w' [bk b2 (evC evZ) 25, rdI b3 a s.length c p9 e9, bk b4 (evC ⟨v2, v3, cl, v5, v1, v7, lab, val⟩) 25] ∧ p9 ≤ s.length ∧ (e9 = 0 → e8 = 0) ∧ (G → e9 = 0 ∧ s.drop p9 = rest ∧ lab = x.label ∧ val = x.val)) ?_ ?_
  · refine c_cond rfl (fun h => ?_) (fun h => (c_skip (t_n ?_)))
    · have hk2 : 2 < v1 := by simp at h; omega
      clear h
      refine c_sreg rfl ?_
      refine s1 (r_mvp h5) ?_
      refine so (o_c3 rfl rfl rfl (c_rd1 mm (k := 1) rfl hp7 hl H 0 1) ?_)
      rintro _ w21 ⟨va, pa, ea, rfl, mm, hpa, hsa, hga⟩
      skip
      refine s1 (r_fa h6) ?_
      refine ss (o_st mm 2 rfl rfl rfl rfl rfl fun w22 mm => ?_)
      refine wn ?_
      have mm : Mem w No _ [bk b2 (evC evZ) 25, rdI b3 a s.length c pa ea, bk b4 (evC ⟨v2, v3, cl, v5, v1, v7, va, []⟩) 25] := mm
      refine c_region rfl ?_
      refine s1 (r_mvp h5) ?_
      refine s1 (r_mvp h5) ?_
      refine so (o_c3 rfl rfl rfl (c_rd1 mm (k := 1) rfl hpa hl H 1 12) ?_)
      rintro _ w23 ⟨vb, pb, eb, rfl, mm, hpb, hsb, hgb⟩
      skip
      refine so (o_c2 rfl rfl (c_rdW mm (k := 1) rfl hpb hcc hl H vb (rdpos hsb)) ?_)
      rintro _ w24 ⟨vc, pc, ec, rfl, mm, hpc, hsc, hgc⟩
      skip
      refine s1 (r_fa h6) ?_
      refine ss (o_st mm 2 rfl rfl rfl rfl rfl fun w25 mm => ?_)
      refine wn (t_n ?_)
      have mm : Mem w No _ [bk b2 (evC evZ) 25, rdI b3 a s.length c pc ec, bk b4 (evC ⟨v2, v3, cl, v5, v1, v7, va, vc⟩) 25] := mm
      refine ⟨va, vc, pc, ec, h2, h3, h4, h5, h6, mm, hpc, fun h => (hsa (hsb (hsc h)).1).1, fun g => ?_⟩
      have ok := (hG g).1
      have hkk : 2 < x.kind := by rw [← (g1 g).1]; exact hk2
      have hl0 := ok.l0; have hl2 := ok.l2; have hv1 := ok.v1 hkk; have hv12 := ok.v12
      have ht6' : t6 = UInt8.ofNat x.label.toNat :: (UInt8.ofNat x.val.length :: (x.val ++ rest)) := by rw [ht6, if_pos hkk]; rfl
      obtain ⟨q1, q2, q3⟩ := hga x.label (UInt8.ofNat x.val.length :: (x.val ++ rest)) (hg8 g) (by rw [(g7 g).2.2, ht6']; exact tOne_put x.label (by omega) (by omega) (by omega) (by omega))
      obtain ⟨q4, q5, q6⟩ := hgb ((x.val.length : Nat) : Int) (x.val ++ rest) q2 (by rw [q3]; have := tOne_put (l := 1) (h := 12) (s := x.val ++ rest) ((x.val.length : Nat) : Int) (by omega) (by omega) (by omega) (by omega); simpa using this)
      obtain ⟨q7, q8, q9⟩ := hgc x.val rest q5 q6 q4
      exact ⟨q8, q9, q1, q7⟩
    · have hk2 : ¬ 2 < v1 := by simp at h; omega
      clear h
      refine ⟨0, [], p7, e8, h2, h3, h4, h5, h6, mm, hp7, id, fun g => ?_⟩
      have ok := (hG g).1
      have hkk : ¬ 2 < x.kind := by rw [← (g1 g).1]; exact hk2
      have hb := ok.bare (by omega)
      refine ⟨hg8 g, ?_, hb.1.symm, hb.2.symm⟩
      rw [(g7 g).2.2, ht6, if_neg hkk]; rfl
  clear mm h2 h3 h4 h5 h6
  rintro e w9 ⟨lab, val, p9, e9, h2, h3, h4, h5, h6, mm, hp9, hs9, hg9⟩
  refine c_seq ?_
  refine c_sreg rfl ?_
  refine s1 (r_mvp h5) ?_
  refine s1 (r_nil rfl) ?_
  refine s1 (r_fa rfl) ?_
  refine s1 (r_ld rfl (mm.b 1 rfl) rfl) ?_
  refine s1 (r_ne rfl rfl) ?_
  refine wn ?_
  refine c_cond rfl (fun h => ?_) (fun h => (c_skip (t_n ?_)))
  · have hne : e9 ≠ 0 := by simpa using h
    clear h
    refine c_sdraw2 mixed [(0, some 0), (1, some 0), (2, some 0), (3, some 0), (4, some 2), (5, none), (6, some 2), (7, some 0)] [0, 0, 0, 0, 0, 2, 2, 0] (Sof (mm.pk [1, 2] (by decide))) (Sof (mm.pk [1, 2] (by decide))) (fun _ h => h) (by kernel_rfl) rfl rfl (by kernel_rfl) (fun w26 hc => ?_)
    have mm := mm.frame hc
    refine q01 rfl (fun w => r_bd bN rfl) ?_
    refine q01 rfl (fun w => r_mvp h5) ?_
    refine q01 rfl (fun w => r_nil rfl) ?_
    refine q01 rfl (fun w => r_fa rfl) ?_
    refine qA1 rfl (fun w m => r_ld rfl (m.b 0 rfl) rfl) (mm.pk [1, 2] (by decide)) ?_
    refine qs rfl (o_sta mm 0 rfl h2 rfl rfl rfl (Nat.le_of_ble_eq_true rfl) fun w27 mm => ⟨(mm.pk [1, 2] (by decide)), ?_⟩)
    refine qA1 rfl (fun w m => r_asi rfl) (mm.pk [1, 2] (by decide)) ?_
    refine q01 rfl (fun w => r_asi rfl) ?_
    refine qn ?_
    refine c_ret (retctt rfl h2 (mm.b 0 rfl) rfl rfl rfl ⟨evZ, 0, e9, rfl, Nat.zero_le _, fun h => ?_, mm.chg⟩)
    exact absurd (hg9 (hGn h)).1 hne
  have he9 : e9 = 0 := by simpa using h
  clear h
  have he3 := hse (hs5 (hs6 (hs7 (hs8 (hs9 he9)))).1).1
  obtain ⟨he2, hn1, hn2⟩ := hs3 he3
  obtain ⟨_, hr0, hr4⟩ := hs2 he2
  obtain ⟨jr, rfl⟩ := Int.eq_ofNat_of_zero_le hr0
  have hj : jr < 5 := by omega
  refine c_sreg rfl ?_
  refine s1 (r_fa h6) ?_
  refine s1 (r_ld rfl (mm.b 2 rfl) rfl) ?_
  refine s1 (r_fa h6) ?_
  refine s1 (r_ld rfl (mm.b 2 rfl) rfl) ?_
  refine s1 (r_sub rfl rfl (wi (n := v3 - 1) (by omega) (by omega))) ?_
  refine s1 (r_fa h6) ?_
  refine s1 (r_ixa rfl (show _ = Value.int .i64 ((jr : Nat) : Int) from rfl) (by omega) (by omega)) ?_
  refine ss (o_st mm 2 rfl rfl rfl rfl (blt_ev ⟨jr, v3, cl, v5, v1, v7, lab, val⟩ jr hj) fun w28 mm => ?_)
  refine wn ?_
  have mm : Mem w No _ [bk b2 (evC evZ) 25, rdI b3 a s.length c p9 e9, bk b4 (setN (evC ⟨jr, v3, cl, v5, v1, v7, lab, val⟩) (0 + 2 + ((jr : Nat) : Int).toNat * 1) (.int .i64 (v3 - 1))) 25] := mm
  rw [nth_evi2 ⟨jr, v3, cl, v5, v1, v7, lab, val⟩ jr hj] at mm
  have mm : Mem w No _ [bk b2 (evC evZ) 25, rdI b3 a s.length c p9 e9, bk b4 (evC ⟨jr, v3, cl.set jr (v3 - 1), v5, v1, v7, lab, val⟩) 25] := mm
  refine c_sdraw2 mixed [(1, some 0), (2, some 0), (3, some 0), (0, some 2), (4, some 2), (5, none), (6, some 0), (7, some 0)] [0, 0, 0, 0, 2, 2, 0, 0] (Sof (mm.pk [1, 2] (by decide))) (Sof (mm.pk [1, 2] (by decide))) (fun _ h => h) (by kernel_rfl) rfl rfl (by kernel_rfl) (fun w29 hc => ?_)
  have mm := mm.frame hc
  refine q01 rfl (fun w => r_mvp h5) ?_
  refine q01 rfl (fun w => r_nil rfl) ?_
  refine q01 rfl (fun w => r_fa rfl) ?_
  refine qA1 rfl (fun w m => r_lda h6 (m.b 1 rfl) rfl) (mm.pk [1, 2] (by decide)) ?_
  refine qA1 rfl (fun w m => r_ld rfl (m.b 0 rfl) rfl) (mm.pk [1, 2] (by decide)) ?_
  refine qs rfl (o_sta mm 0 rfl h2 rfl rfl rfl (Nat.le_of_ble_eq_true rfl) fun w30 mm => ⟨(mm.pk [1, 2] (by decide)), ?_⟩)
  refine q01 rfl (fun w => r_asi rfl) ?_
  refine q01 rfl (fun w => r_asi rfl) ?_
  refine qn ?_
  refine c_ret (retctt rfl h2 (mm.b 0 rfl) rfl rfl rfl ⟨⟨jr, v3, cl.set jr (v3 - 1), v5, v1, v7, lab, val⟩, p9, 0, rfl, hp9, fun h => ?_, mm.chg⟩)
  have g := hGn h
  obtain ⟨ok, hsx, htk⟩ := hG g
  have q1 := (g1 g).1; have q2 := (g2 g).1; have q3 := (g3 g).1; have q5 := (g5 g).1; have q7 := (g7 g).1
  obtain ⟨_, q9, q10, q11⟩ := hg9 g
  rw [htk]
  refine ⟨?_, ?_, rfl⟩
  · show (⟨jr, v3, cl.set jr (v3 - 1), v5, v1, v7, lab, val⟩ : Ev) = x
    have hc : cl.set jr (v3 - 1) = x.c := Clk.ext' fun j hj2 => by
      rw [Clk.get_set _ _ _ hj hj2]
      have hown := ok.own
      rw [← q2] at hown
      by_cases hjj : jr = j
      · rw [if_pos hjj, ← hjj, q3]
        exact hown.symm
      · rw [if_neg hjj, hclk g j hj2, if_pos ⟨hj2, by rw [← q2]; omega⟩]
    rw [hc, q2, q3, q5, q1, q7, q10, q11]
  · show ((p9 : Nat) : Int) = ((putE x).length : Int)
    have h1 := congrArg List.length q9
    have h2 := congrArg List.length hsx
    rw [List.length_drop] at h1
    rw [List.length_append] at h2
    omega
end Go.Proofs.Ytgdbbaggkoillaa
/- Frames, plain: which may be, which bytes they are, what any bytes are. -/
namespace Go.Proofs.Ytgdbbaggkoillaa
open K

/-- What a kind's frame carries: 1 events, 2 a number, 3 a clock. -/
def fHas (k : Int) : Int := if k = 1 then 1 else if k = 2 then 2 else if k = 3 then 3 else if k = 4 then 1 else if k = 5 then 3 else 0
def frMay (x : Rec) : Bool :=
  decide (fHas x.kind ≠ 0) && decide (0 ≤ x.r) && decide (x.r < 5) && (decide (fHas x.kind = 1) || decide (x.es.length = 0)) && (decide (fHas x.kind = 2) || decide (x.upto = 0)) && (decide (fHas x.kind = 3) || decide (x.c = clk0)) &&
  (decide (x.kind ≠ 1) || decide (x.es.length ≠ 0)) && decide (x.es.length ≤ 20) && inEv x.upto && x.c.all inEv && x.es.all (fun y => decide (evMay y = 0) && (decide (x.kind ≠ 1) || decide (y.r = x.r)))
def bodyF (x : Rec) : List UInt8 :=
  [UInt8.ofNat x.kind.toNat, UInt8.ofNat x.r.toNat] ++ (if fHas x.kind = 2 then vput x.upto.toNat else if fHas x.kind = 3 then clkB x.c 5 else UInt8.ofNat x.es.length :: evsB x.es)
def putF (x : Rec) : List UInt8 := sealL (vput (bodyF x).length ++ bodyF x)
def frPut (x : Rec) : List UInt8 := if frMay x then putF x else []

structure FrOk (x : Rec) : Prop where
  is : fHas x.kind ≠ 0
  r0 : 0 ≤ x.r
  r5 : x.r < 5
  h1 : fHas x.kind = 1 ∨ x.es = []
  h2 : fHas x.kind = 2 ∨ x.upto = 0
  h3 : fHas x.kind = 3 ∨ x.c = clk0
  push : x.kind ≠ 1 ∨ x.es ≠ []
  most : x.es.length ≤ 20
  u0 : 0 ≤ x.upto
  u1 : x.upto ≤ 1048576
  c : ∀ i, i < 5 → 0 ≤ x.c.get i ∧ x.c.get i ≤ 1048576
  es : ∀ y ∈ x.es, evMay y = 0
  own : x.kind = 1 → ∀ y ∈ x.es, y.r = x.r
theorem frMay_ok {x : Rec} (h : frMay x = true) : FrOk x := by
  simp only [frMay, Bool.and_eq_true, Bool.or_eq_true, decide_eq_true_eq] at h
  obtain ⟨⟨⟨⟨⟨⟨⟨⟨⟨⟨h1, h2⟩, h3⟩, h4⟩, h5⟩, h6⟩, h7⟩, h8⟩, h9⟩, h10⟩, h11⟩ := h
  simp only [inEv, Bool.and_eq_true, decide_eq_true_eq] at h9
  have h12 := fun y (hy : y ∈ x.es) => List.all_eq_true.1 h11 y hy
  simp only [Bool.and_eq_true, Bool.or_eq_true, decide_eq_true_eq] at h12
  refine ⟨h1, h2, h3, h4.imp id List.eq_nil_of_length_eq_zero, h5, h6, h7.imp id (fun h he => h (by rw [he]; rfl)), h8, h9.1, h9.2, fun i hi => ?_, fun y hy => (h12 y hy).1, fun hk y hy => ((h12 y hy).2).resolve_left (fun h => h hk)⟩
  have := (Clk.all_iff _ _).1 h10 i hi
  simpa [inEv] using this
theorem frMay_of {x : Rec} (h : FrOk x) : frMay x = true := by
  simp only [frMay, Bool.and_eq_true, Bool.or_eq_true, decide_eq_true_eq]
  refine ⟨⟨⟨⟨⟨⟨⟨⟨⟨⟨h.is, h.r0⟩, h.r5⟩, h.h1.imp id (fun e => by rw [e]; rfl)⟩, h.h2⟩, h.h3⟩, h.push.imp id (fun he hl => he (List.eq_nil_of_length_eq_zero hl))⟩, h.most⟩, ?_⟩, ?_⟩, ?_⟩
  · simp only [inEv, Bool.and_eq_true, decide_eq_true_eq]; exact ⟨h.u0, h.u1⟩
  · rw [Clk.all_iff]; intro i hi; have := h.c i hi; simpa [inEv] using this
  · rw [List.all_eq_true]
    intro y hy
    simp only [Bool.and_eq_true, Bool.or_eq_true, decide_eq_true_eq]
    refine ⟨h.es y hy, ?_⟩
    by_cases hk : x.kind = 1
    · exact .inr (h.own hk y hy)
    · exact .inl hk
theorem fHas_in {k : Int} (h : fHas k ≠ 0) : 1 ≤ k ∧ k ≤ 5 := by
  unfold fHas at h
  split at h
  · omega
  · split at h
    · omega
    · split at h
      · omega
      · split at h
        · omega
        · split at h
          · omega
          · exact absurd rfl h
theorem fHas_123 (k : Int) : fHas k = 0 ∨ fHas k = 1 ∨ fHas k = 2 ∨ fHas k = 3 := by
  unfold fHas
  split
  · exact .inr (.inl rfl)
  · split
    · exact .inr (.inr (.inl rfl))
    · split
      · exact .inr (.inr (.inr rfl))
      · split
        · exact .inr (.inl rfl)
        · split
          · exact .inr (.inr (.inr rfl))
          · exact .inl rfl
/-- The code's questions. -/
def mayFA (x : Rec) : Bool := (decide (fHas x.kind = 0) || decide (x.r < 0) || decide (5 ≤ x.r) || decide (fHas x.kind ≠ 1) && decide (0 < ((x.es.length : Nat) : Int)) || decide (fHas x.kind ≠ 2) && decide (x.upto ≠ 0) || decide (fHas x.kind ≠ 3) && !decide (x.c = clk0))
def mayFB (x : Rec) : Bool := (decide (x.kind = 1) && decide (((x.es.length : Nat) : Int) = 0) || decide (20 < ((x.es.length : Nat) : Int)) || !inEv x.upto)
theorem frMay_abc (x : Rec) : frMay x = (!mayFA x && !mayFB x && x.c.all inEv && x.es.all (fun y => decide (evMay y = 0) && (decide (x.kind ≠ 1) || decide (y.r = x.r)))) := by
  have e1 : decide (0 ≤ x.r) = !decide (x.r < 0) := by rw [← decide_not]; exact decide_eq_decide.2 (by omega)
  have e2 : decide (x.r < 5) = !decide (5 ≤ x.r) := by rw [← decide_not]; exact decide_eq_decide.2 (by omega)
  have e3 : decide (x.upto = 0) = !decide (x.upto ≠ 0) := by rw [← decide_not]; exact decide_eq_decide.2 (by omega)
  have e4 : decide (x.es.length = 0) = !decide (0 < ((x.es.length : Nat) : Int)) := by rw [← decide_not]; exact decide_eq_decide.2 (by omega)
  have e5 : decide (x.kind ≠ 1) = !decide (x.kind = 1) := by rw [← decide_not]
  have e6 : decide (x.es.length ≠ 0) = !decide (((x.es.length : Nat) : Int) = 0) := by rw [← decide_not]; exact decide_eq_decide.2 (by omega)
  have e7 : decide (x.es.length ≤ 20) = !decide (20 < ((x.es.length : Nat) : Int)) := by rw [← decide_not]; exact decide_eq_decide.2 (by omega)
  have e8 : decide (fHas x.kind ≠ 0) = !decide (fHas x.kind = 0) := by rw [← decide_not]
  have e9 : ∀ n : Int, decide (fHas x.kind = n) = !decide (fHas x.kind ≠ n) := fun n => by rw [← decide_not]; exact decide_eq_decide.2 (by omega)
  unfold frMay mayFA mayFB
  rw [e1, e2, e3, e4, e6, e7, e8, e9 1, e9 2, e9 3]
  generalize (x.es.all fun y => decide (evMay y = 0) && (decide (x.kind ≠ 1) || decide (y.r = x.r))) = b0
  rw [e5]
  generalize decide (fHas x.kind = 0) = b1
  generalize decide (fHas x.kind ≠ 1) = b2
  generalize decide (fHas x.kind ≠ 2) = b3
  generalize decide (fHas x.kind ≠ 3) = b4
  generalize decide (x.r < 0) = b5
  generalize decide (5 ≤ x.r) = b6
  generalize inEv x.upto = b7
  generalize decide (x.upto ≠ 0) = b8
  generalize decide (x.c = clk0) = b9
  generalize decide (0 < ((x.es.length : Nat) : Int)) = b10
  generalize decide (x.kind = 1) = b11
  generalize decide (((x.es.length : Nat) : Int) = 0) = b12
  generalize decide (20 < ((x.es.length : Nat) : Int)) = b13
  simp only [Bool.not_or, Bool.not_and, Bool.not_not, Bool.and_assoc]
end Go.Proofs.Ytgdbbaggkoillaa
/- The walk's own small logic, thirteenth part: maps whose keys are integers. -/
namespace Go.Proofs.Ytgdbbaggkoillaa
namespace K
def mp (b : Nat) (es : List MapEntry) (clock : Nat) : It where
  foot := fun k => k = b
  holds := fun w => w.heap[b]? = some (.map es.toArray clock)
  keep := fun w w' h hk => (hk b rfl).trans h
  live := fun w k h hk => by subst hk; exact (Array.getElem?_eq_some_iff.1 h).1
section
variable {P : Program} {e : Env} {w : World} {d : Option Nat} {ty : Nat} {pos : String} {af : Array Edge} {g : Option (Nat × Bool)} {K : Value → World → Prop}
variable {w0 : World} {F0 : Nat → Prop} {L : List It}
theorem o_mkm {t : Nat} (m : Mem w0 F0 w L) (hK : ∀ b w', Mem w0 F0 w' (L ++ [mp b [] 0]) → K (.map (some b)) w') : OwpE P ⟨d, .makeMap t none, ty, pos, af, g⟩ e w K := by
  have hr : (Instr.makeMap t none).run P w = .ok (.map (some w.heap.size)) (w.alloc (.map #[] 0)) := rfl
  unfold OwpE
  simp only [execOp, Option.map_none, Sem.run_bind, hr, Result.andThen_ok, Sem.run_pure]
  exact hK _ _ (m.add (Chg.alloc No w _) (heap_alloc_new w _) (fun b hb => by cases hb; exact Nat.le_refl _))
theorem run_checkKey_int {b : Bool} {kt : Nat} {k : IntKind} {a : Int} (hk : P.underlying kt = some (.int k)) : (Instr.checkKey b 10000 kt (.int k a)).run P w = .ok () w := by
  show (Instr.checkKey b (9999 + 1) kt (.int k a)).run P w = .ok () w
  unfold Instr.checkKey
  simp only [Sem.run_bind, run_underlying hk, Result.andThen_ok, Sem.run_pure]
theorem run_findKey_int {kt : Nat} {k : IntKind} {a : Int} {es : List MapEntry} {r : Option (Nat × Value)} (hk : P.underlying kt = some (.int k)) (hf : Instr.findNow (.int k) (.int k a) es 0 = some r) : (Instr.findKey kt (.int k a) es).run P w = .ok r w := by
  simp [Instr.findKey, run_underlying hk, hf]
/-- A key that is not there yet. -/
theorem o_insi {t kt et b clock : Nat} {kk : IntKind} {a : Int} {x y z : Operand} {v : Value} {es : List MapEntry} (m : Mem w0 F0 w L) (k : Nat) (hk : nth L k = some (mp b es clock)) (ht : P.underlying t = some (.map kt et)) (hkt : P.underlying kt = some (.int kk))
    (hx : ev e x = .map (some b)) (hy : ev e y = .int kk a) (hz : ev e z = v) (hf : Instr.findNow (.int kk) (.int kk a) es 0 = some none)
    (hK : ∀ w', Mem w0 F0 w' (setN L k (mp b (es ++ [⟨.int kk a, v, clock⟩]) (clock + 1))) → K undef w') : OwpE P ⟨d, .insert t x y z, ty, pos, af, g⟩ e w K := by
  have hb : w.heap[b]? = some (.map es.toArray clock) := m.ok k _ hk
  have hlt : b < w.heap.size := (Array.getElem?_eq_some_iff.1 hb).1
  have hr : (Instr.mapUpdate t (.map (some b)) (.int kk a) v).run P w = .ok () { w with heap := w.heap.setIfInBounds b (.map (es ++ [({ key := .int kk a, val := v, born := clock } : MapEntry)]).toArray (clock + 1)) } := by
    have h1 := run_checkKey_int (P := P) (w := w) (b := false) (a := a) hkt
    have h2 := run_findKey_int (P := P) (w := w) hkt hf
    simp only [Instr.mapUpdate, Sem.run_bind, run_underlying ht, Result.andThen_ok, getObj, Sem.run, hb, h1, h2, setObj]
    simp
  unfold OwpE
  simp only [execOp, hx, hy, hz, Sem.run_bind, hr, Result.andThen_ok, Sem.run_pure]
  refine hK _ (m.turn k hk ⟨rfl, rfl, rfl, by simp, fun j _ hj => by simp only; rw [Array.getElem?_setIfInBounds_ne (Ne.symm hj)]⟩ ?_ (fun c hc => .inl hc))
  show (w.heap.setIfInBounds b _)[b]? = _
  simp [hlt]
def lkV (r : Option (Nat × Value)) (zv : Value) : Value := match r with | some q => q.2 | none => zv
theorem r_lki {t kt et b clock : Nat} {kk : IntKind} {a : Int} {x y : Operand} {es : List MapEntry} {r : Option (Nat × Value)} {v zv : Value} (m : Mem w0 F0 w L) (k : Nat) (hk : nth L k = some (mp b es clock)) (ht : P.underlying t = some (.map kt et)) (hkt : P.underlying kt = some (.int kk))
    (hz : (P.info? et).map (·.zero) = some (some zv)) (hx : ev e x = .map (some b)) (hy : ev e y = .int kk a) (hf : Instr.findNow (.int kk) (.int kk a) es 0 = some r) (hv : lkV r zv = v) :
    (execOp (ev e) ⟨d, .lookup t x y false, ty, pos, af, g⟩).run P w = .ok (.value v) w := by
  have hb : w.heap[b]? = some (.map es.toArray clock) := m.ok k _ hk
  have h1 := run_checkKey_int (P := P) (w := w) (b := es.toArray.isEmpty) (a := a) hkt
  have h2 := run_findKey_int (P := P) (w := w) hkt hf
  have h3 : (zeroValue et).run P w = .ok zv w := by
    cases hi : P.info? et with
    | none => rw [hi] at hz; cases hz
    | some i =>
      rw [hi] at hz
      simp only [Option.map_some, Option.some.injEq] at hz
      simp [zeroValue, typeInfo, hi, hz]
  have hr : (Instr.lookup t (.map (some b)) (.int kk a) false).run P w = .ok v w := by
    subst hv
    simp only [Instr.lookup, Sem.run_bind, run_underlying ht, Result.andThen_ok, getObj, Sem.run, hb, h1, h2, Sem.run_pure]
    cases r with
    | none => simp only [Sem.run_bind, h3, Result.andThen_ok, Sem.run_pure]; rfl
    | some q => simp only [Sem.run_bind, Result.andThen_ok, Sem.run_pure]; rfl
  simp only [execOp, hx, hy, Sem.run_bind, hr, Result.andThen_ok, Sem.run_pure]
end
end K
end Go.Proofs.Ytgdbbaggkoillaa
/- Two events compared. -/
namespace Go.Proofs.Ytgdbbaggkoillaa
open K
set_option maxRecDepth 100000
theorem ev_guard : Try.prog.eqGuardType Try.prog.depth 25 = false := by kernel_rfl
theorem ev_key : Try.prog.keyTypeAt 3 25 = true := by kernel_rfl
def evL (x : Ev) : List Lit := [.int .i64 x.r, .int .i64 x.n, .int .i64 x.c.c0, .int .i64 x.c.c1, .int .i64 x.c.c2, .int .i64 x.c.c3, .int .i64 x.c.c4, .int .i64 x.h, .int .i64 x.kind, .string x.key, .int .i64 x.label, .string x.val]
theorem ev_formed (x : Ev) : (Value.agg (evC x).toArray).formed Try.prog 25 = true := by kernel_rfl
structure EvW (x : Ev) : Prop where
  r : i64 x.r
  n : i64 x.n
  c0 : i64 x.c.c0
  c1 : i64 x.c.c1
  c2 : i64 x.c.c2
  c3 : i64 x.c.c3
  c4 : i64 x.c.c4
  h : i64 x.h
  kind : i64 x.kind
  key : x.key.length ≤ maxLen
  label : i64 x.label
  val : x.val.length ≤ maxLen
theorem wf_i64 {n : Int} (h : i64 n) : (Lit.int .i64 n).wf = true := by
  have h1 := h.1; have h2 := h.2
  simp [Lit.wf, IntKind.min, IntKind.max, IntKind.signed, IntKind.bits]
  omega
theorem lit_int {D : Nat} {n : Int} (h : i64 n) : Try.prog.keyLits (D + 1) 3 [.int .i64 n] = some [.int .i64 n] := by
  unfold Program.keyLits
  rw [Try.underlying3]
  exact if_pos ⟨rfl, wf_i64 h⟩
theorem lit_str {D : Nat} {l : List UInt8} (h : l.length ≤ maxLen) : Try.prog.keyLits (D + 1) 9 [str l] = some [.string l] := by
  unfold Program.keyLits
  rw [Try.underlying9]
  exact if_pos (show (⟨l.toArray⟩ : ByteArray).size ≤ maxLen by simpa [ByteArray.size] using h)
theorem lit_clk {D : Nat} {c : Clk} (h0 : i64 c.c0) (h1 : i64 c.c1) (h2 : i64 c.c2) (h3 : i64 c.c3) (h4 : i64 c.c4) : Try.prog.keyLits (D + 2) 23 (clkC c) = some [.int .i64 c.c0, .int .i64 c.c1, .int .i64 c.c2, .int .i64 c.c3, .int .i64 c.c4] := by
  unfold Program.keyLits
  rw [Try.underlying23]
  simp only [cells3, cells23]
  rw [if_pos (show (clkC c).length = 5 from rfl)]
  simp [List.range, List.range.loop, clkC, lit_int h0, lit_int h1, lit_int h2, lit_int h3, lit_int h4]
theorem ev_lits (x : Ev) (h : EvW x) : Try.prog.keyLits 4 25 (evC x) = some (evL x) := by
  unfold Program.keyLits
  rw [Try.underlying25]
  simp only [cells3, cells9, cells23, cells25]
  rw [if_pos ⟨show (evC x).length = 12 from rfl, by kernel_rfl⟩]
  have e := lit_clk (D := 1) h.c0 h.c1 h.c2 h.c3 h.c4
  unfold clkC at e
  simp [cells3, cells9, cells23, evC, lit_int h.r, lit_int h.n, e, lit_int h.h, lit_int h.kind, lit_str h.key, lit_int h.label, lit_str h.val, evL]
theorem ev_iff (x y : Ev) : evL x = evL y ↔ x = y := by
  constructor
  · intro h
    obtain ⟨r, n, ⟨c0, c1, c2, c3, c4⟩, hh, k, key, l, v⟩ := x
    obtain ⟨r', n', ⟨c0', c1', c2', c3', c4'⟩, hh', k', key', l', v'⟩ := y
    simp [evL] at h
    simp [h]
  · intro h; rw [h]
theorem ev_eq (x y : Ev) (hx : EvW x) (hy : EvW y) (w : World) : (Op.equalIn 10000 25 (.agg (evC x).toArray) (.agg (evC y).toArray)).run Try.prog w = .ok (decide (x = y)) w :=
  run_eqa ev_key (by decide) (ev_formed x) (ev_formed y) (ev_lits x hx) (ev_lits y hy) (ev_iff x y)
end Go.Proofs.Ytgdbbaggkoillaa
/- record.fits, parts, may, Put: walks. -/
namespace Go.Proofs.Ytgdbbaggkoillaa
open K
set_option maxRecDepth 100000
set_option maxHeartbeats 4000000

theorem c_rFits (n : Int) (w : World) : Cl Try.prog 79 #[.int .i64 n] w (fun v w' => v = .bool (inEv n) ∧ Chg No w w') := by
  refine f_enter (args := [_]) Try.func79 rfl rfl ?_
  have mm := Mem.nil No w
  refine c_sreg rfl ?_
  refine s1 (r_asb rfl) ?_
  refine wn ?_
  refine c_sreg rfl ?_
  refine s1 (r_mvi rfl) ?_
  refine s1 (r_ge rfl rfl) ?_
  refine s1 (r_mvb rfl) ?_
  refine sT rfl rfl (fun h => r_mvi rfl) ?_
  refine sT rfl rfl (fun h => r_le (sel_t h :) rfl) ?_
  refine s1 (r_and rfl rfl) ?_
  refine s1 (r_asb rfl) ?_
  refine wn ?_
  exact c_ret (ret1 rfl rfl ⟨rfl, mm.chg⟩)

def prtV (k : Int) : Value := .tuple #[.agg [.bool (parts k).1, .bool (parts k).2.1, .bool (parts k).2.2.1].toArray, .bool (parts k).2.2.2]
theorem c_parts (k : Int) (w : World) : Cl Try.prog 57 #[.int .i64 k] w (fun v w' => v = prtV k ∧ Chg No w w') := by
  refine f_enter (args := [_]) Try.func57 rfl rfl ?_
  have mm := Mem.nil No w
  refine c_sreg rfl ?_
  refine so (o_al mm fun b2 w2 mm => ?_)
  refine s1 (r_asb rfl) ?_
  refine wn ?_
  have mm : Mem w No w2 [bk b2 [.bool false, .bool false, .bool false] 87] := mm
  refine c_seq ?_
  refine c_sreg rfl ?_
  refine s1 (r_mvi rfl) ?_
  refine wn ?_
  refine c_block ?_
  refine c_seq ?_
  refine c_sreg rfl ?_
  refine s1 (r_eq rfl rfl) ?_
  refine s1 (r_asb rfl) ?_
  refine wn ?_
  refine c_mid0 (fun e w' => e 2 = .pointer (some ⟨b2, 0, none⟩) ∧ e 4 = .int .i64 k ∧ e 5 = .bool (decide (k = 1 ∨ k = 2 ∨ k = 5)) ∧ Mem w No w' [bk b2 [.bool false, .bool false, .bool false] 87]) ?_ ?_
  · refine c_cond rfl (fun h => (c_skip (t_n ?_))) (fun h => ?_)
    · refine ⟨rfl, rfl, congrArg Value.bool ?_, mm⟩
      have hk : k = 1 := by simpa using h
      simp [hk]
    · have h1 : ¬ k = 1 := by simpa using h
      clear h
      refine c_sreg rfl ?_
      refine s1 (r_eq rfl rfl) ?_
      refine s1 (r_asb rfl) ?_
      refine wn ?_
      refine c_cond rfl (fun h => (c_skip (t_n ?_))) (fun h => ?_)
      · refine ⟨rfl, rfl, congrArg Value.bool ?_, mm⟩
        have hk : k = 2 := by simpa using h
        simp [hk]
      · have h2 : ¬ k = 2 := by simpa using h
        clear h
        refine c_region rfl ?_
        refine s1 (r_eq rfl rfl) ?_
        refine s1 (r_asb rfl) ?_
        refine wn (t_n ?_)
        refine ⟨rfl, rfl, congrArg Value.bool ?_, mm⟩
        simp [h1, h2]
  clear mm
  rintro e w9 ⟨h2, h4, h5, mm⟩
  refine c_cond h5 (fun h => ?_) (fun h => ?_)
  · have hk : k = 1 ∨ k = 2 ∨ k = 5 := by simpa using h
    have hp : parts k = (false, false, true, true) := if_pos hk
    refine c_sreg rfl ?_
    refine s1 (r_bd (bb rfl bN) rfl) ?_
    refine ss (o_sta mm 0 rfl h2 rfl rfl rfl (Nat.le_of_ble_eq_true rfl) fun w3 mm => ?_)
    refine s1 (r_asb rfl) ?_
    refine wn ?_
    refine c_ret (retc2 rfl h2 (mm.b 0 rfl) rfl rfl ⟨?_, mm.chg⟩)
    unfold prtV; rw [hp]; rfl
  have h1 : ¬ (k = 1 ∨ k = 2 ∨ k = 5) := by simpa using h
  clear h
  refine c_sreg rfl ?_
  refine s1 (r_eq h4 rfl) ?_
  refine s1 (r_asb rfl) ?_
  refine wn ?_
  refine c_cond rfl (fun h => ?_) (fun h => ?_)
  · have hk : k = 3 := by simpa using h
    have hp : parts k = (true, false, false, true) := (if_neg h1).trans (if_pos hk)
    refine c_sreg rfl ?_
    refine s1 (r_bd (bb rfl bN) rfl) ?_
    refine ss (o_sta mm 0 rfl h2 rfl rfl rfl (Nat.le_of_ble_eq_true rfl) fun w4 mm => ?_)
    refine s1 (r_asb rfl) ?_
    refine wn ?_
    refine c_ret (retc2 rfl h2 (mm.b 0 rfl) rfl rfl ⟨?_, mm.chg⟩)
    unfold prtV; rw [hp]; rfl
  have h3 : ¬ k = 3 := by simpa using h
  clear h
  refine c_sreg rfl ?_
  refine s1 (r_eq h4 rfl) ?_
  refine s1 (r_asb rfl) ?_
  refine wn ?_
  refine c_cond rfl (fun h => ?_) (fun h => ?_)
  · have hk : k = 4 := by simpa using h
    have hp : parts k = (true, false, true, true) := (if_neg h1).trans ((if_neg h3).trans (if_pos hk))
    refine c_sreg rfl ?_
    refine s1 (r_bd (bb rfl (bb rfl bN)) rfl) ?_
    refine ss (o_sta mm 0 rfl h2 rfl rfl rfl (Nat.le_of_ble_eq_true rfl) fun w5 mm => ?_)
    refine s1 (r_asb rfl) ?_
    refine wn ?_
    refine c_ret (retc2 rfl h2 (mm.b 0 rfl) rfl rfl ⟨?_, mm.chg⟩)
    unfold prtV; rw [hp]; rfl
  have h6 : ¬ k = 4 := by simpa using h
  clear h
  refine c_sreg rfl ?_
  refine s1 (r_eq h4 rfl) ?_
  refine s1 (r_asb rfl) ?_
  refine wn ?_
  refine c_cond rfl (fun h => ?_) (fun h => (c_skip (b_n (t_n ?_))))
  · have hk : k = 6 := by simpa using h
    have hp : parts k = (false, true, false, true) := (if_neg h1).trans ((if_neg h3).trans ((if_neg h6).trans (if_pos hk)))
    refine c_sreg rfl ?_
    refine s1 (r_bd (bb rfl bN) rfl) ?_
    refine ss (o_sta mm 0 rfl h2 rfl rfl rfl (Nat.le_of_ble_eq_true rfl) fun w6 mm => ?_)
    refine s1 (r_asb rfl) ?_
    refine wn ?_
    refine c_ret (retc2 rfl h2 (mm.b 0 rfl) rfl rfl ⟨?_, mm.chg⟩)
    unfold prtV; rw [hp]; rfl
  have h7 : ¬ k = 6 := by simpa using h
  have hp : parts k = (false, false, false, false) := (if_neg h1).trans ((if_neg h3).trans ((if_neg h6).trans (if_neg h7)))
  clear h
  refine c_sreg rfl ?_
  refine s1 (r_bd bN rfl) ?_
  refine ss (o_sta mm 0 rfl h2 rfl rfl rfl (Nat.le_of_ble_eq_true rfl) fun w7 mm => ?_)
  refine s1 (r_asb rfl) ?_
  refine wn ?_
  refine c_ret (retc2 rfl h2 (mm.b 0 rfl) rfl rfl ⟨?_, mm.chg⟩)
  unfold prtV; rw [hp]; rfl

/-! clocks compared -/
theorem clk_guard : Try.prog.eqGuardType Try.prog.depth 23 = false := by kernel_rfl
theorem clk_key : Try.prog.keyTypeAt 2 23 = true := by kernel_rfl
def ClkW (c : Clk) : Prop := i64 c.c0 ∧ i64 c.c1 ∧ i64 c.c2 ∧ i64 c.c3 ∧ i64 c.c4
theorem clk_eq (x y : Clk) (hx : ClkW x) (hy : ClkW y) (w : World) : (Op.equalIn 10000 23 (.agg (clkC x).toArray) (.agg (clkC y).toArray)).run Try.prog w = .ok (decide (x = y)) w := by
  obtain ⟨x0, x1, x2, x3, x4⟩ := hx
  obtain ⟨y0, y1, y2, y3, y4⟩ := hy
  refine run_eqa clk_key (by decide) (by kernel_rfl) (by kernel_rfl) (lit_clk (D := 1) x0 x1 x2 x3 x4) (lit_clk (D := 1) y0 y1 y2 y3 y4) ?_
  cases x; cases y
  simp
theorem clk0_w : ClkW clk0 := by unfold ClkW clk0 i64; simp

def recIt (x : Rec) (a : Option Addr) (cap b : Nat) : It := bk b (recV x a cap) 43
theorem c_recMay (x : Rec) {a : Option Addr} {cap : Nat} (w : World) (H : Cells w a (evsC x.es)) (hw : ClkW x.c) : Cl Try.prog 55 #[.agg (recV x a cap).toArray] w (fun v w' => v = .bool (recMay x) ∧ Chg No w w') := by
  refine f_enter (args := [_]) Try.func55 rfl rfl ?_
  have mm := Mem.nil No w
  refine c_sreg rfl ?_
  refine so (o_bxa mm rfl fun b2 w2 mm => ?_)
  refine s1 (r_asb rfl) ?_
  refine wn ?_
  refine c_sreg rfl ?_
  refine s1 (r_fa rfl) ?_
  refine s1 (r_ld rfl (mm.b 0 rfl) rfl) ?_
  refine so (o_c1 rfl (c_parts x.kind _) ?_)
  rintro _ w3 ⟨rfl, hc⟩
  have mm := mm.frame hc
  refine s1 (r_mvu rfl) ?_
  refine s1 (r_extg rfl rfl) ?_
  refine s1 (r_extb rfl rfl) ?_
  refine so (o_al mm fun b4 w4 mm => ?_)
  refine ss (o_sta mm 1 rfl rfl rfl rfl rfl (Nat.le_of_ble_eq_true rfl) fun w5 mm => ?_)
  refine s1 (r_asb rfl) ?_
  refine wn ?_
  refine c_seq ?_
  refine c_sreg rfl ?_
  refine s1 (r_mvb rfl) ?_
  refine s1 (r_not rfl) ?_
  refine s1 (r_mvb rfl) ?_
  refine sF rfl rfl (fun h => r_fa rfl) ?_
  refine sF rfl rfl (fun h => r_ld (sel_t h :) (mm.b 0 rfl) rfl) ?_
  refine sF rfl rfl (fun h => r_lt (sel_t h :) rfl) ?_
  refine s1 (r_or rfl rfl) ?_
  refine s1 (r_mvb rfl) ?_
  refine sF rfl rfl (fun h => r_fa rfl) ?_
  refine sF rfl rfl (fun h => r_ld (sel_t h :) (mm.b 0 rfl) rfl) ?_
  refine sF rfl rfl (fun h => r_ge (sel_t h :) rfl) ?_
  refine s1 (r_or rfl rfl) ?_
  refine s1 (r_mvb rfl) ?_
  refine sF rfl rfl (fun h => r_fa rfl) ?_
  refine sF rfl rfl (fun h => r_ld (sel_t h :) (mm.b 0 rfl) rfl) ?_
  refine sFw (I := Sof mm) rfl rfl mm (fun h => o_c1 (sel_t h :) (c_rFits x.upto _) (fun _ _ hh => ⟨hh.1, mm.frame hh.2⟩)) (fun w6 mm => ?_)
  refine sF rfl rfl (fun h => r_not (sel_t h :)) ?_
  refine s1 (r_or rfl rfl) ?_
  refine s1 (r_mvb rfl) ?_
  refine sF rfl rfl (fun h => r_fa rfl) ?_
  refine sF rfl rfl (fun h => r_ld (sel_t h :) (mm.b 1 rfl) rfl) ?_
  refine sF rfl rfl (fun h => r_not (sel_t h :)) ?_
  refine sF rfl rfl (fun h => r_mvb (sel_t h :)) ?_
  refine sTs rfl rfl (fun h => r_fa rfl) ?_
  refine sTs rfl rfl (fun h => r_ld (sel_t h :) (mm.b 0 rfl) rfl) ?_
  refine sTs rfl rfl (fun h => r_ne (sel_t h :) rfl) ?_
  refine sF rfl rfl (fun h => r_and (sel_t h :) (sel_and h :)) ?_
  refine s1 (r_or rfl rfl) ?_
  refine s1 (r_mvb rfl) ?_
  refine sF rfl rfl (fun h => r_fa rfl) ?_
  refine sF rfl rfl (fun h => r_ld (sel_t h :) (mm.b 1 rfl) rfl) ?_
  refine sF rfl rfl (fun h => r_not (sel_t h :)) ?_
  refine sF rfl rfl (fun h => r_mvb (sel_t h :)) ?_
  refine sTs rfl rfl (fun h => r_fa rfl) ?_
  refine sTs rfl rfl (fun h => r_lda (sel_t h :) (mm.b 0 rfl) rfl) ?_
  refine sTs rfl rfl (fun h => r_bd bN rfl) ?_
  refine sTs rfl rfl (fun h => r_nea clk_guard (clk_eq _ _ hw clk0_w) (sel_t h :) (sel_t h :)) ?_
  refine sF rfl rfl (fun h => r_and (sel_t h :) (sel_and h :)) ?_
  refine s1 (r_or rfl rfl) ?_
  refine s1 (r_mvb rfl) ?_
  refine sF rfl rfl (fun h => r_fa rfl) ?_
  refine sF rfl rfl (fun h => r_ld (sel_t h :) (mm.b 1 rfl) rfl) ?_
  refine sF rfl rfl (fun h => r_not (sel_t h :)) ?_
  refine sF rfl rfl (fun h => r_mvb (sel_t h :)) ?_
  refine sTs rfl rfl (fun h => r_fa rfl) ?_
  refine sTs rfl rfl (fun h => r_ld (sel_t h :) (mm.b 0 rfl) rfl) ?_
  refine sTs rfl rfl (fun h => r_len (sel_t h :)) ?_
  refine sTs rfl rfl (fun h => r_gt (sel_t h :) rfl) ?_
  refine sF rfl rfl (fun h => r_and (sel_t h :) (sel_and h :)) ?_
  refine s1 (r_or rfl rfl) ?_
  refine wn ?_
  refine c_cond rfl (fun h => ?_) (fun h => (c_skip (t_n ?_)))
  · refine c_sreg rfl ?_
    refine s1 (r_asb rfl) ?_
    refine wn ?_
    refine c_ret (ret1 rfl rfl ⟨congrArg Value.bool (?_ : false = recMay x), mm.chg⟩)
    have h : mayA x = true := h
    rw [recMay_abc, h]; rfl
  have hA : mayA x = false := h
  clear h
  refine c_seq ?_
  refine c_sreg rfl ?_
  refine s1 (r_fa rfl) ?_
  refine s1 (r_ld rfl (mm.b 0 rfl) rfl) ?_
  refine s1 (r_eq rfl rfl) ?_
  refine s1 (r_mvb rfl) ?_
  refine sT rfl rfl (fun h => r_fa rfl) ?_
  refine sT rfl rfl (fun h => r_ld (sel_t h :) (mm.b 0 rfl) rfl) ?_
  refine sT rfl rfl (fun h => r_len (sel_t h :)) ?_
  refine sT rfl rfl (fun h => r_ne (sel_t h :) rfl) ?_
  refine s1 (r_and rfl rfl) ?_
  refine s1 (r_mvb rfl) ?_
  refine sF rfl rfl (fun h => r_fa rfl) ?_
  refine sF rfl rfl (fun h => r_ld (sel_t h :) (mm.b 0 rfl) rfl) ?_
  refine sF rfl rfl (fun h => r_len (sel_t h :)) ?_
  refine sF rfl rfl (fun h => r_gt (sel_t h :) rfl) ?_
  refine s1 (r_or rfl rfl) ?_
  refine wn ?_
  refine c_cond rfl (fun h => ?_) (fun h => (c_skip (t_n ?_)))
  · refine c_sreg rfl ?_
    refine s1 (r_asb rfl) ?_
    refine wn ?_
    refine c_ret (ret1 rfl rfl ⟨congrArg Value.bool (?_ : false = recMay x), mm.chg⟩)
    have h : mayB x = true := h
    rw [recMay_abc, h, hA]; rfl
  have hB : mayB x = false := h
  clear h
  have hlen : x.es.length ≤ 4096 := by
    unfold mayB at hB
    simp at hB
    omega
  have mm : Mem w No _ [bk b2 (recV x a cap) 43] := mm.pk [0] (by decide)
  refine c_seq ?_
  refine c_sreg rfl ?_
  refine s1 (r_fa rfl) ?_
  refine s1 (r_lda rfl (mm.b 0 rfl) rfl) ?_
  refine s1 (r_mvi rfl) ?_
  refine wn ?_
  refine c_block ?_
  refine c_loop (fun k e w' => ∃ i, k + i = 5 ∧ e 1 = .pointer (some ⟨b2, 0, none⟩) ∧ e 81 = .agg (clkC x.c).toArray ∧ e 82 = .int .i64 (i : Nat) ∧ Mem w No w' [bk b2 (recV x a cap) 43] ∧ ∀ j, j < i → inEv (x.c.get j) = true) 5 ?_ ?_
  · exact ⟨0, rfl, rfl, rfl, rfl, mm, fun j hj => absurd hj (by omega)⟩
  clear mm
  rintro k e w9 ⟨i, hki, h1, h81, h82, mm, hall⟩
  refine c_sreg rfl ?_
  refine s1 (r_lt h82 rfl) ?_
  refine wn ?_
  refine c_seq ?_
  refine c_cond rfl (fun h => (c_skip (t_n ?_))) (fun h => (c_exit (t_x (t_x (b_x (t_n ?_))))))
  · have hi : i < 5 := by simp at h; omega
    clear h
    refine c_seq ?_
    refine c_block ?_
    refine c_sreg rfl ?_
    refine s1 (r_ixv h81 h82 (by omega) (by omega) (nth_clk x.c _ (by omega))) ?_
    refine s1 (r_asi rfl) ?_
    refine wn ?_
    refine c_sreg rfl ?_
    refine s1 (r_mvi rfl) ?_
    refine so (o_c1 rfl (c_rFits _ _) ?_)
    rintro _ w7 ⟨rfl, hc⟩
    have mm := mm.frame hc
    refine s1 (r_not rfl) ?_
    refine wn ?_
    refine c_cond rfl (fun h => ?_) (fun h => (c_skip (b_n (t_n ?_))))
    · refine c_sreg rfl ?_
      refine s1 (r_asb rfl) ?_
      refine wn ?_
      refine c_ret (ret1 rfl rfl ⟨congrArg Value.bool (?_ : false = recMay x), mm.chg⟩)
      have h9 : x.c.all inEv = false := by
        cases hq : x.c.all inEv with
        | false => rfl
        | true =>
          have := (Clk.all_iff _ _).1 hq i hi
          simp at h
          rw [this] at h; cases h
      rw [recMay_abc, h9, Bool.and_false]; rfl
    refine c_region rfl ?_
    refine s1 (r_add h82 rfl (wi (by omega) (by omega))) ?_
    refine s1 (r_mvi rfl) ?_
    refine wn (t_n ?_)
    refine ⟨k - 1, by omega, i + 1, by omega, h1, h81, rfl, mm, ?_⟩
    intro j hj
    rcases Nat.lt_or_ge j i with hlt | hge
    · exact hall j hlt
    · obtain rfl : j = i := by omega
      simpa using h
  have hi : i = 5 := by simp at h; omega
  subst hi
  clear h
  have hC : x.c.all inEv = true := (Clk.all_iff _ _).2 hall
  refine c_seq ?_
  refine c_sreg rfl ?_
  refine s1 (r_fa h1) ?_
  refine s1 (r_ld rfl (mm.b 0 rfl) rfl) ?_
  refine s1 (r_len rfl) ?_
  refine s1 (r_mvi rfl) ?_
  refine wn ?_
  refine c_block ?_
  refine c_loop (fun k e w' => ∃ i, k + i = x.es.length ∧ e 1 = .pointer (some ⟨b2, 0, none⟩) ∧ e 90 = .slice a x.es.length cap ∧ e 91 = .int .i64 (x.es.length : Nat) ∧ e 92 = .int .i64 (i : Nat) ∧ Mem w No w' [bk b2 (recV x a cap) 43] ∧ ∀ j, (h : j < x.es.length) → j < i → evMay x.es[j] = 0) x.es.length ?_ ?_
  · exact ⟨0, rfl, h1, rfl, rfl, rfl, mm, fun j _ hj => absurd hj (by omega)⟩
  clear mm
  rintro k e w9 ⟨i, hki, h1, h90, h91, h92, mm, hall⟩
  refine c_sreg rfl ?_
  refine s1 (r_lt h92 h91) ?_
  refine wn ?_
  refine c_seq ?_
  refine c_cond rfl (fun h => (c_skip (t_n ?_))) (fun h => (c_exit (t_x (t_x (b_x (t_n ?_))))))
  · have hi : i < x.es.length := by simp at h; omega
    clear h
    refine c_seq ?_
    refine c_block ?_
    refine c_sreg rfl ?_
    refine s1 (r_ix h90 h92 (by omega) (by omega) (evs_some H hi)) ?_
    refine s1 (r_ldce rfl (mm.ro H) (seg_evs x.es i hi) (evs_le x.es i hi) (by decide)) ?_
    refine so (o_al mm fun b8 w8 mm => ?_)
    refine ss (o_sta mm 1 rfl rfl rfl rfl rfl (Nat.le_of_ble_eq_true rfl) fun w9 mm => ?_)
    refine wn ?_
    refine c_sreg rfl ?_
    refine s1 (r_lda rfl (mm.b 1 rfl) rfl) ?_
    refine so (o_c1 rfl (c_may _ _) ?_)
    rintro _ w10 ⟨rfl, hc⟩
    have mm := mm.frame hc
    refine s1 (r_ne rfl rfl) ?_
    refine wn ?_
    refine c_cond rfl (fun h => ?_) (fun h => (c_skip (b_n (t_n ?_))))
    · refine c_sreg rfl ?_
      refine s1 (r_asb rfl) ?_
      refine wn ?_
      refine c_ret (ret1 rfl rfl ⟨congrArg Value.bool (?_ : false = recMay x), mm.chg⟩)
      have h9 : x.es.all (fun y => decide (evMay y = 0)) = false := by
        cases hq : x.es.all (fun y => decide (evMay y = 0)) with
        | false => rfl
        | true =>
          have := List.all_eq_true.1 hq x.es[i] (List.getElem_mem hi)
          simp at this h
          exact absurd this h
      rw [recMay_abc, h9, Bool.and_false]
    refine c_region rfl ?_
    refine s1 (r_add h92 rfl (wi (by omega) (by omega))) ?_
    refine s1 (r_mvi rfl) ?_
    refine wn (t_n ?_)
    refine ⟨k - 1, by omega, i + 1, by omega, h1, h90, h91, rfl, mm.pk [0] (by decide), ?_⟩
    intro j hj hji
    rcases Nat.lt_or_ge j i with hlt | hge
    · exact hall j hj hlt
    · obtain rfl : j = i := by omega
      simpa using h
  have hi : i = x.es.length := by simp at h; omega
  subst hi
  clear h
  refine c_sreg rfl ?_
  refine s1 (r_asb rfl) ?_
  refine wn ?_
  refine c_ret (ret1 rfl rfl ⟨congrArg Value.bool (?_ : true = recMay x), mm.chg⟩)
  have h9 : x.es.all (fun y => decide (evMay y = 0)) = true := by
    rw [List.all_eq_true]
    intro y hy
    obtain ⟨j, hj, rfl⟩ := List.mem_iff_getElem.1 hy
    exact decide_eq_true (hall j hj hj)
  rw [recMay_abc, h9, hC, hA, hB]; rfl
end Go.Proofs.Ytgdbbaggkoillaa
