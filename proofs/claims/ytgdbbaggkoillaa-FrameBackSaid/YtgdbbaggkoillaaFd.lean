/- kithlaw06.EventCuts: the walk. -/
import Derived.Test.YtgdbbaggkoillaaTt
namespace Go.Proofs.Ytgdbbaggkoillaa
open K
set_option maxRecDepth 100000
set_option maxHeartbeats 4000000

theorem Sl.pre {w : World} {a : Option Addr} {c : Nat} {b : List UInt8} (h : Cells w a (u8s b)) (hc : b.length ≤ c) (i : Nat) (hi : i ≤ b.length) : Sl w (.slice a ((i : Int)).toNat c) (b.take i) :=
  ⟨a, c, by rw [List.length_take, Nat.min_eq_left hi]; rfl, by rw [List.length_take]; omega, h.takeb i⟩
theorem c_eCut (x : Ev) (hk : EvOk x) (i : Nat) (hi : i < (putE x).length) (v : Value) (w : World) (hs : Sl w v ((putE x).take i)) : Cl Try.prog 24 #[v] w (fun r w' => r = .tuple #[.agg (evC evZ).toArray, .int .i64 0, .int .i64 2] ∧ Chg No w w') := by
  have h44 := putE_le x hk
  have h := c_eTake ((putE x).take i) (by rw [List.length_take]; omega) v w hs
  rw [takeE_cut x hk i hi] at h
  exact h
theorem i64_small {n : Int} (h0 : -100000000 ≤ n) (h1 : n ≤ 100000000) : i64 n := ⟨by omega, by omega⟩
theorem evW_of {x : Ev} (hk : EvOk x) : EvW x := by
  have h1 := hk.k1; have h2 := hk.k5; have h3 := hk.r0; have h4 := hk.r5; have h5 := hk.n1; have h6 := hk.n2; have h7 := hk.h1; have h8 := hk.h2
  have h9 := hk.key8; have h10 := hk.v12; have h11 := hk.l0; have h12 := hk.l2
  have c0 : 0 ≤ x.c.c0 ∧ x.c.c0 ≤ 1048576 := hk.c 0 (by decide)
  have c1 : 0 ≤ x.c.c1 ∧ x.c.c1 ≤ 1048576 := hk.c 1 (by decide)
  have c2 : 0 ≤ x.c.c2 ∧ x.c.c2 ≤ 1048576 := hk.c 2 (by decide)
  have c3 : 0 ≤ x.c.c3 ∧ x.c.c3 ≤ 1048576 := hk.c 3 (by decide)
  have c4 : 0 ≤ x.c.c4 ∧ x.c.c4 ≤ 1048576 := hk.c 4 (by decide)
  exact ⟨i64_small (by omega) (by omega), i64_small (by omega) (by omega), i64_small (by omega) (by omega), i64_small (by omega) (by omega), i64_small (by omega) (by omega), i64_small (by omega) (by omega), i64_small (by omega) (by omega), i64_small (by omega) (by omega), i64_small (by omega) (by omega), by unfold maxLen; omega, i64_small (by omega) (by omega), by unfold maxLen; omega⟩
theorem evW_Z : EvW evZ := by
  refine ⟨?_, ?_, ?_, ?_, ?_, ?_, ?_, ?_, ?_, ?_, ?_, ?_⟩ <;> first | exact i64_small (by decide) (by decide) | exact Nat.zero_le _

theorem c_EventCuts (a : Ev) (ha : EvIn a) (b : Ev) (hb : EvIn b) (w : World) : Cl Try.prog 7 #[.agg (evC a).toArray, .agg (evC b).toArray] w (fun v w' => v = .bool true ∧ Chg No w w') := by
  refine f_enter (args := [_, _]) Try.func7 rfl rfl ?_
  have mm := Mem.nil No w
  have hxz := fitEv_ok a
  have hyz := fitEv_ok b
  refine c_sreg rfl ?_
  refine so (o_bxa mm rfl fun b2 w2 mm => ?_)
  refine so (o_bxa mm rfl fun b3 w3 mm => ?_)
  refine s1 (r_asb rfl) ?_
  refine wn ?_
  refine c_sreg rfl ?_
  refine so (o_c0 (c_shown6 _) ?_)
  rintro _ w4 ⟨rfl, hc⟩
  have mm := mm.frame hc
  refine s1 (r_asb rfl) ?_
  refine wn ?_
  refine c_sreg rfl ?_
  refine s1 (r_lda rfl (mm.b 0 rfl) rfl) ?_
  refine so (o_c1 rfl (c_fit6 a ha _) ?_)
  rintro _ w5 ⟨rfl, hc⟩
  have mm := mm.frame hc
  refine so (o_al mm fun b6 w6 mm => ?_)
  refine ss (o_sta mm 2 rfl rfl rfl rfl rfl (Nat.le_of_ble_eq_true rfl) fun w7 mm => ?_)
  refine wn ?_
  refine c_sreg rfl ?_
  refine s1 (r_lda rfl (mm.b 1 rfl) rfl) ?_
  refine so (o_c1 rfl (c_fit6 b hb _) ?_)
  rintro _ w8 ⟨rfl, hc⟩
  have mm := mm.frame hc
  refine so (o_al mm fun b9 w9 mm => ?_)
  refine ss (o_sta mm 3 rfl rfl rfl rfl rfl (Nat.le_of_ble_eq_true rfl) fun w10 mm => ?_)
  refine wn ?_
  generalize hxe : fitEv a = x at *
  generalize hye : fitEv b = y at *
  have hx := evMay_ok hxz
  have hy := evMay_ok hyz
  have lx := putE_le x hx
  have ly := putE_le y hy
  have mm := mm.pk [2, 3] (by decide)
  have mm : Mem w No w10 [bk b6 (evC x) 25, bk b9 (evC y) 25] := mm
  refine c_sreg rfl ?_
  refine s1 (r_lda rfl (mm.b 0 rfl) rfl) ?_
  refine so (o_c1 rfl (c_ePut0 x hxz _ rfl _) ?_)
  rintro _ w11 ⟨a11, c11, rfl, hc, hn⟩
  have mm := mm.new hc hn
  refine s1 (r_mvu rfl) ?_
  refine s1 (r_exts rfl rfl) ?_
  refine s1 (r_exti rfl rfl) ?_
  refine s1 (r_ass rfl) ?_
  refine s1 (r_asi rfl) ?_
  refine wn ?_
  refine c_sreg rfl ?_
  refine s1 (r_lda rfl (mm.b 1 rfl) rfl) ?_
  refine so (o_c1 rfl (c_ePut0 y hyz _ rfl _) ?_)
  rintro _ w12 ⟨a12, c12, rfl, hc, hn⟩
  have mm := mm.new hc hn
  refine s1 (r_mvu rfl) ?_
  refine s1 (r_exts rfl rfl) ?_
  refine s1 (r_exti rfl rfl) ?_
  refine s1 (r_ass rfl) ?_
  refine s1 (r_asi rfl) ?_
  refine wn ?_
  refine c_seq ?_
  refine c_sreg rfl ?_
  refine s1 (r_mvb rfl) ?_
  refine s1 (r_not rfl) ?_
  refine s1 (r_mvb rfl) ?_
  refine sF rfl rfl (fun h => r_mvi rfl) ?_
  refine sF rfl rfl (fun h => r_ne (sel_t h :) rfl) ?_
  refine s1 (r_or rfl rfl) ?_
  refine s1 (r_mvb rfl) ?_
  refine sF rfl rfl (fun h => r_mvi rfl) ?_
  refine sF rfl rfl (fun h => r_ne (sel_t h :) rfl) ?_
  refine s1 (r_or rfl rfl) ?_
  refine wn ?_
  refine c_cond rfl (fun h => ?_) (fun h => (c_skip (t_n ?_)))
  · cases h
  clear h
  refine c_seq ?_
  refine c_sreg rfl ?_
  refine s1 (r_asi rfl) ?_
  refine wn ?_
  have mm : Mem w No w12 [bk b6 (evC x) 25, bk b9 (evC y) 25, own 5 1 a11 (putE x).length c11 (u8s (putE x)), own 5 1 a12 (putE y).length c12 (u8s (putE y))] := mm
  refine c_block ?_
  refine c_loop (fun k e w' => ∃ (i : Nat), k + i = (putE x).length ∧ e 6 = .pointer (some ⟨b6, 0, none⟩) ∧ e 7 = .pointer (some ⟨b9, 0, none⟩) ∧ e 8 = .slice a11 (putE x).length c11 ∧ e 10 = .slice a12 (putE y).length c12 ∧ e 12 = .int .i64 i ∧ Mem w No w' [bk b6 (evC x) 25, bk b9 (evC y) 25, own 5 1 a11 (putE x).length c11 (u8s (putE x)), own 5 1 a12 (putE y).length c12 (u8s (putE y))]) (putE x).length ?_ ?_
  · exact ⟨0, rfl, rfl, rfl, rfl, rfl, rfl, mm⟩
  clear mm hc hn
  rintro k e w9 ⟨i, hki, h6, h7, h8, h10, h12, mm⟩
  have hcx := own_le (mm.o 2 rfl)
  have hcy := own_le (mm.o 3 rfl)
  refine c_seq ?_
  refine c_sreg rfl ?_
  refine s1 (r_mvi h12) ?_
  refine s1 (r_mvs h8) ?_
  refine s1 (r_len rfl) ?_
  refine s1 (r_lt rfl rfl) ?_
  refine wn ?_
  refine c_cond rfl (fun h => (c_skip (t_n ?_))) (fun h => (c_exit (t_x (t_x (b_x (t_n ?_))))))
  · have hi : i < (putE x).length := by simp at h; omega
    clear h
    refine c_seq ?_
    refine c_block ?_
    refine c_sreg rfl ?_
    refine s1 (r_mvs h8) ?_
    refine s1 (r_mvi h12) ?_
    refine s1 (r_slh rfl rfl (by omega) (by omega)) ?_
    refine so (o_c1 rfl (c_eCut x hx i hi _ _ (Sl.pre (mm.c 2 rfl) hcx i (by omega))) ?_)
    rintro _ w13 ⟨rfl, hc⟩
    have mm := mm.frame hc
    refine s1 (r_mvu rfl) ?_
    refine s1 (r_extg rfl rfl) ?_
    refine s1 (r_exti rfl rfl) ?_
    refine s1 (r_exti rfl rfl) ?_
    refine so (o_al mm fun b14 w14 mm => ?_)
    refine ss (o_sta mm 4 rfl rfl rfl rfl rfl (Nat.le_of_ble_eq_true rfl) fun w15 mm => ?_)
    refine s1 (r_asi rfl) ?_
    refine s1 (r_asi rfl) ?_
    refine wn ?_
    refine c_sreg rfl ?_
    refine s1 (r_mvi rfl) ?_
    refine s1 (r_ne rfl rfl) ?_
    refine s1 (r_mvb rfl) ?_
    refine sF rfl rfl (fun h => r_mvi rfl) ?_
    refine sF rfl rfl (fun h => r_ne (sel_t h :) rfl) ?_
    refine s1 (r_or rfl rfl) ?_
    refine s1 (r_mvb rfl) ?_
    refine sF rfl rfl (fun h => r_lda rfl (mm.b 4 rfl) rfl) ?_
    refine sF rfl rfl (fun h => r_bd bN rfl) ?_
    refine sF rfl rfl (fun h => r_nea ev_guard (ev_eq _ _ evW_Z evW_Z) (sel_t h :) (sel_t h :)) ?_
    refine s1 (r_or rfl rfl) ?_
    refine wn ?_
    refine c_cond rfl (fun h => ?_) (fun h => (c_skip (b_n (t_n ?_))))
    · cases h
    clear h
    refine c_region rfl ?_
    refine s1 (r_mvi h12) ?_
    refine s1 (r_add rfl rfl (wi (by omega) (by omega))) ?_
    refine s1 (r_asi rfl) ?_
    refine wn (t_n ?_)
    exact ⟨k - 1, by omega, i + 1, by omega, h6, h7, h8, h10, rfl, mm.pk [0, 1, 2, 3] (by decide)⟩
  clear h
  refine c_sreg rfl ?_
  refine s1 (r_mvs h8) ?_
  refine s1 (r_len rfl) ?_
  refine s1 (r_mvs h10) ?_
  refine s1 (r_len rfl) ?_
  refine s1 (r_min2 rfl rfl) ?_
  refine s1 (r_asi rfl) ?_
  refine wn ?_
  refine c_sdraw mixed [(0, true), (1, true), (2, true), (3, true), (4, true), (5, true), (6, true), (7, true), (8, true), (9, true), (10, true), (11, true), (12, true), (13, true)] [true, true, true, true, true, true, true, true, true, true, true, true, true, true] (Sof mm) (by kernel_rfl) rfl rfl (by kernel_rfl) (fun w16 hc => ?_)
  have mm := mm.frame hc
  refine p1 rfl (fun w m => r_mvs h8) mm ?_
  refine p1 rfl (fun w m => r_mvi rfl) mm ?_
  refine p1 rfl (fun w m => r_slh rfl rfl (by omega) (by omega)) mm ?_
  refine p1 rfl (fun w m => r_b2s rfl ((m.c 2 rfl).takeb (min (putE x).length (putE y).length)) (by rw [List.length_take]; omega)) mm ?_
  refine p1 rfl (fun w m => r_mvs h10) mm ?_
  refine p1 rfl (fun w m => r_mvi rfl) mm ?_
  refine p1 rfl (fun w m => r_slh rfl rfl (by omega) (by omega)) mm ?_
  refine p1 rfl (fun w m => r_b2s rfl ((m.c 3 rfl).takeb (min (putE x).length (putE y).length)) (by rw [List.length_take]; omega)) mm ?_
  refine p1 rfl (fun w m => r_seq rfl rfl) mm ?_
  refine p1 rfl (fun w m => r_lda h6 (m.b 0 rfl) rfl) mm ?_
  refine p1 rfl (fun w m => r_lda h7 (m.b 1 rfl) rfl) mm ?_
  refine p1 rfl (fun w m => r_eqa ev_guard (ev_eq _ _ (evW_of hx) (evW_of hy)) rfl rfl) mm ?_
  refine p1 rfl (fun w m => r_beq Try.underlying4 rfl rfl) mm ?_
  refine p1 rfl (fun w m => r_asb rfl) mm ?_
  refine pn ?_
  refine c_ret (ret1 rfl rfl ⟨congrArg Value.bool (?_ : _ = true), mm.chg⟩)
  rw [putE_pre hx hy]
  simp
end Go.Proofs.Ytgdbbaggkoillaa

