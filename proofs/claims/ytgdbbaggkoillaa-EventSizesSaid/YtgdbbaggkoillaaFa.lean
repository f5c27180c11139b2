/- kithlaw06.EventSizes: the walk. -/
import Derived.Test.YtgdbbaggkoillaaEz
namespace Go.Proofs.Ytgdbbaggkoillaa
open K
set_option maxRecDepth 100000
set_option maxHeartbeats 4000000

theorem c_longI (n : Int) (h0 : 0 ≤ n) (h1 : n ≤ 9223372036854775807) (w : World) : Cl Try.prog 21 #[.int .i64 n] w (fun v w' => v = .int .i64 (vput n.toNat).length ∧ Chg No w w') := by
  obtain ⟨m, rfl⟩ := Int.eq_ofNat_of_zero_le h0
  exact c_long m (by omega) w
theorem ctxB_le (x : Ev) (hk : EvOk x) : ∀ i, i ≤ 5 → (ctxB x i).length ≤ 10 * i
  | 0, _ => Nat.le_refl _
  | i + 1, h => by
    have h1 := ctxB_le x hk i (by omega)
    have h2 := vput_len10 (x.c.get i).toNat (by have := hk.c i (by omega); omega)
    rw [ctxB_succ, List.length_append]
    split <;> simp <;> omega
theorem putE_len (x : Ev) : (putE x).length = 2 + (vput x.n.toNat).length + (vput x.h.toNat).length + 1 + x.key.length + (ctxB x 5).length + (if 2 < x.kind then 2 + x.val.length else 0) := by
  show ([UInt8.ofNat x.kind.toNat, UInt8.ofNat x.r.toNat] ++ vput x.n.toNat ++ ctxB x 5 ++ vput x.h.toNat ++ UInt8.ofNat x.key.length :: x.key ++ (if 2 < x.kind then UInt8.ofNat x.label.toNat :: UInt8.ofNat x.val.length :: x.val else [])).length = _
  simp only [List.length_append, List.length_cons, List.length_nil]
  split <;> simp <;> omega

theorem c_EventSizes (a : Ev) (ha : EvIn a) (w : World) : Cl Try.prog 3 #[.agg (evC a).toArray] w (fun v w' => v = .bool true ∧ Chg No w w') := by
  refine f_enter (args := [_]) Try.func3 rfl rfl ?_
  have mm := Mem.nil No w
  have hz := fitEv_ok a
  have hk := evMay_ok hz
  refine c_sreg rfl ?_
  refine so (o_bxa mm rfl fun b2 w2 mm => ?_)
  refine s1 (r_asb rfl) ?_
  refine wn ?_
  refine c_sreg rfl ?_
  refine so (o_c0 (c_shown6 _) ?_)
  rintro _ w3 ⟨rfl, hc⟩
  have mm := mm.frame hc
  refine s1 (r_asb rfl) ?_
  refine wn ?_
  refine c_sreg rfl ?_
  refine s1 (r_lda rfl (mm.b 0 rfl) rfl) ?_
  refine so (o_c1 rfl (c_fit6 a ha _) ?_)
  rintro _ w4 ⟨rfl, hc⟩
  have mm := mm.frame hc
  refine so (o_al mm fun b5 w5 mm => ?_)
  refine ss (o_sta mm 1 rfl rfl rfl rfl rfl (Nat.le_of_ble_eq_true rfl) fun w6 mm => ?_)
  refine wn ?_
  generalize hx : fitEv a = x at *
  refine c_sreg rfl ?_
  refine s1 (r_lda rfl (mm.b 1 rfl) rfl) ?_
  refine so (o_c1 rfl (c_ePut0 x hz _ rfl _) ?_)
  rintro _ w7 ⟨a7, c7, rfl, hc, hn⟩
  have mm := mm.new hc hn
  refine s1 (r_mvu rfl) ?_
  refine s1 (r_exts rfl rfl) ?_
  refine s1 (r_exti rfl rfl) ?_
  refine s1 (r_ass rfl) ?_
  refine s1 (r_asi rfl) ?_
  refine wn ?_
  have hn10 := vput_len10 x.n.toNat (by have := hk.n2; omega)
  have hh10 := vput_len10 x.h.toNat (by have := hk.h2; omega)
  have hk8 := hk.key8
  have hv12 := hk.v12
  have mm := mm.pk [1, 2] (by decide)
  have mm : Mem w No w7 [bk b5 (evC x) 25, own 5 1 a7 (putE x).length c7 (u8s (putE x))] := mm
  refine c_sdraw mixed [(0, true), (1, true), (4, true), (5, true), (9, true), (10, true), (11, true), (2, false), (3, true), (6, false), (7, true), (8, true), (12, true), (13, true)] [true, true, true, true, true, true, true, true, true, true, true, true, true, true] (Sof mm) (by kernel_rfl) rfl rfl (by kernel_rfl) (fun w8 hc => ?_)
  have mm := mm.frame hc
  refine p1 rfl (fun w m => r_fa rfl) mm ?_
  refine p1 rfl (fun w m => r_ld rfl (m.b 0 rfl) rfl) mm ?_
  refine p1 rfl (fun w m => r_fa rfl) mm ?_
  refine p1 rfl (fun w m => r_ld rfl (m.b 0 rfl) rfl) mm ?_
  refine p1 rfl (fun w m => r_fa rfl) mm ?_
  refine p1 rfl (fun w m => r_ld rfl (m.b 0 rfl) rfl) mm ?_
  refine p1 rfl (fun w m => r_slen rfl) mm ?_
  refine po rfl (o_c1 rfl (c_longI x.n (by have := hk.n1; omega) (by have := hk.n2; omega) _) ?_)
  rintro _ w9 ⟨rfl, hc⟩
  have mm := mm.frame hc
  refine ⟨fun _ => mm, ?_⟩
  refine p1 rfl (fun w m => r_add rfl rfl (wi (by omega) (by omega))) mm ?_
  refine po rfl (o_c1 rfl (c_longI x.h (by have := hk.h1; omega) (by have := hk.h2; omega) _) ?_)
  rintro _ w10 ⟨rfl, hc⟩
  have mm := mm.frame hc
  refine ⟨fun _ => mm, ?_⟩
  refine p1 rfl (fun w m => r_add rfl rfl (wi (by omega) (by omega))) mm ?_
  refine p1 rfl (fun w m => r_add rfl rfl (wi (by omega) (by omega))) mm ?_
  refine p1 rfl (fun w m => r_add rfl rfl (wi (by omega) (by omega))) mm ?_
  refine p1 rfl (fun w m => r_asi rfl) mm ?_
  refine pn ?_
  refine c_seq ?_
  refine c_sreg rfl ?_
  refine s1 (r_asi rfl) ?_
  refine wn ?_
  refine c_block ?_
  refine c_loop (fun k e w' => ∃ (i : Nat), k + i = 5 ∧ e 3 = .bool true ∧ e 4 = .pointer (some ⟨b5, 0, none⟩) ∧ e 5 = .slice a7 (putE x).length c7 ∧ e 6 = .int .i64 0 ∧ e 7 = .int .i64 ((2 + (vput x.n.toNat).length + (vput x.h.toNat).length + 1 + x.key.length + (ctxB x i).length : Nat)) ∧ e 8 = .int .i64 i ∧ Mem w No w' [bk b5 (evC x) 25, own 5 1 a7 (putE x).length c7 (u8s (putE x))]) 5 ?_ ?_
  · exact ⟨0, rfl, rfl, rfl, rfl, rfl, congrArg (Value.int .i64) (by show _ = (((2 + (vput x.n.toNat).length + (vput x.h.toNat).length + 1 + x.key.length + 0 : Nat)) : Int); omega), rfl, mm⟩
  rintro k e w' ⟨i, hki, h3, h4, h5, h6, h7, h8, mm⟩
  refine c_seq ?_
  refine c_sreg rfl ?_
  refine s1 (r_mvi h8) ?_
  refine s1 (r_lt rfl rfl) ?_
  refine wn ?_
  refine c_cond rfl (fun h => (c_skip (t_n ?_))) (fun h => (c_exit (t_x (t_x (b_x (t_n ?_))))))
  · have hi : i < 5 := by simp at h; omega
    clear h
    have hs := ctxB_succ x i
    have hcl : (ctxB x i).length ≤ 10 * i := ctxB_le x hk i (by omega)
    have hci := hk.c i hi
    have hc10 := vput_len10 (x.c.get i).toNat (by omega)
    refine c_seq ?_
    refine c_block ?_
    refine c_sreg rfl ?_
    refine s1 (r_mvi h8) ?_
    refine s1 (r_fa h4) ?_
    refine s1 (r_ld rfl (mm.b 0 rfl) rfl) ?_
    refine s1 (r_ne rfl rfl) ?_
    refine wn ?_
    refine c_cond rfl (fun h => ?_) (fun h => (c_skip (b_n (t_n ?_))))
    · have hne : (i : Int) ≠ x.r := by simpa using h
      rw [if_pos hne] at hs
      refine c_region rfl ?_
      refine s1 (r_mvi h7) ?_
      refine s1 (r_mvi h8) ?_
      refine s1 (r_fa h4) ?_
      refine s1 (r_ixa rfl rfl (by omega) (by omega)) ?_
      refine s1 (r_ld rfl (mm.b 0 rfl) (nth_evi x i hi)) ?_
      refine so (o_c1 rfl (c_longI (x.c.get i) hci.1 (by omega) _) ?_)
      rintro _ w11 ⟨rfl, hc⟩
      have mm := mm.frame hc
      refine s1 (r_add rfl rfl (show IntKind.i64.wrap _ = ((2 + (vput x.n.toNat).length + (vput x.h.toNat).length + 1 + x.key.length + (ctxB x (i + 1)).length : Nat) : Int) from by rw [hs, List.length_append, wi (by omega) (by omega)]; omega)) ?_
      refine s1 (r_asi rfl) ?_
      refine wn (b_n (t_n ?_))
      refine c_region rfl ?_
      refine s1 (r_mvi h8) ?_
      refine s1 (r_add rfl rfl (wi (by omega) (by omega))) ?_
      refine s1 (r_asi rfl) ?_
      refine wn (t_n ?_)
      exact ⟨k - 1, by omega, i + 1, by omega, h3, h4, h5, h6, rfl, rfl, mm⟩
    · have hne : ¬ (i : Int) ≠ x.r := by simpa using h
      rw [if_neg hne, List.append_nil] at hs
      refine c_region rfl ?_
      refine s1 (r_mvi h8) ?_
      refine s1 (r_add rfl rfl (wi (by omega) (by omega))) ?_
      refine s1 (r_asi rfl) ?_
      refine wn (t_n ?_)
      exact ⟨k - 1, by omega, i + 1, by omega, h3, h4, h5, h6, by rw [hs]; exact h7, rfl, mm⟩
  have hi : i = 5 := by simp at h; omega
  subst hi
  clear h h8
  have hcl : (ctxB x 5).length ≤ 50 := ctxB_le x hk 5 (by omega)
  have hlen := putE_len x
  have hpos : (putE x).length ≥ 2 := by omega
  have hsome : a7.isSome = true := by
    obtain ⟨ad, ha7, _⟩ := (mm.c 1 rfl) 0 (u8 (UInt8.ofNat x.kind.toNat)) rfl
    rw [ha7]; rfl
  have e0 : ((UInt8.ofNat x.kind.toNat).toNat : Int) = x.kind := by have := hk.k1; have := hk.k5; simp; omega
  have e1 : ((UInt8.ofNat x.r.toNat).toNat : Int) = x.r := by have := hk.r0; have := hk.r5; simp; omega
  refine c_seq ?_
  refine c_sreg rfl ?_
  refine s1 (r_fa h4) ?_
  refine s1 (r_ld rfl (mm.b 0 rfl) rfl) ?_
  refine s1 (r_gt rfl rfl) ?_
  refine wn ?_
  refine c_cond rfl (fun h => ?_) (fun h => (c_skip (t_n ?_)))
  · have hz2 : 2 < x.kind := by simpa using h
    rw [if_pos hz2] at hlen
    refine c_region rfl ?_
    refine s1 (r_mvi h7) ?_
    refine s1 (r_add rfl rfl (wi (by omega) (by omega))) ?_
    refine s1 (r_fa h4) ?_
    refine s1 (r_ld rfl (mm.b 0 rfl) rfl) ?_
    refine s1 (r_slen rfl) ?_
    refine s1 (r_add rfl rfl (wi (by omega) (by omega))) ?_
    refine s1 (r_asi rfl) ?_
    refine wn (t_n ?_)
    refine c_sdraw mixed [(0, true), (1, true), (2, true), (3, true), (4, true), (5, true), (6, true), (7, true), (8, true), (9, true), (10, true), (11, true), (12, true), (13, true), (14, true), (15, true), (16, true), (17, true), (18, true), (19, true), (20, true), (21, true), (22, true), (23, true), (24, true), (25, true), (26, true), (27, true), (28, true), (29, true)] [true, true, true, true, true, true, true, true, true, true, true, true, true, true, true, true, true, true, true, true, true, true, true, true, true, true, true, true, true, true] (Sof mm) (by kernel_rfl) rfl rfl (by kernel_rfl) (fun w12 hc => ?_)
    have mm := mm.frame hc
    refine p1 rfl (fun w m => r_mvb h3) mm ?_
    refine p1 rfl (fun w m => r_mvb rfl) mm ?_
    refine pT rfl rfl rfl (fun h w m => r_mvi h6) mm ?_
    refine pT rfl rfl rfl (fun h w m => r_eq (sel_t h) rfl) mm ?_
    refine p1 rfl (fun w m => r_and rfl rfl) mm ?_
    refine p1 rfl (fun w m => r_mvb rfl) mm ?_
    refine pT rfl rfl rfl (fun h w m => r_mvs h5) mm ?_
    refine pT rfl rfl rfl (fun h w m => r_len (sel_t h)) mm ?_
    refine pT rfl rfl rfl (fun h w m => r_mvi rfl) mm ?_
    refine pT rfl rfl rfl (fun h w m => r_eq (sel_t h) (sel_t h)) mm ?_
    refine p1 rfl (fun w m => r_and rfl rfl) mm ?_
    refine p1 rfl (fun w m => r_mvb rfl) mm ?_
    refine pT rfl rfl rfl (fun h w m => r_mvs h5) mm ?_
    refine pT rfl rfl rfl (fun h w m => r_ix (sel_t h) rfl (by omega) (by omega) hsome) mm ?_
    refine pT rfl rfl rfl (fun h w m => r_ldc (sel_t h) (m.c 1 rfl) rfl) mm ?_
    refine pT rfl rfl rfl (fun h w m => r_cv (sel_t h) (wu8i _)) mm ?_
    refine pT rfl rfl rfl (fun h w m => r_fa h4) mm ?_
    refine pT rfl rfl rfl (fun h w m => r_ld (sel_t h) (m.b 0 rfl) rfl) mm ?_
    refine pT rfl rfl rfl (fun h w m => r_eq (sel_t h) (sel_t h)) mm ?_
    refine p1 rfl (fun w m => r_and rfl rfl) mm ?_
    refine p1 rfl (fun w m => r_mvb rfl) mm ?_
    refine pT rfl rfl rfl (fun h w m => r_mvs h5) mm ?_
    refine pT rfl rfl rfl (fun h w m => r_ix (sel_t h) rfl (by omega) (by omega) hsome) mm ?_
    refine pT rfl rfl rfl (fun h w m => r_ldc (sel_t h) (m.c 1 rfl) rfl) mm ?_
    refine pT rfl rfl rfl (fun h w m => r_cv (sel_t h) (wu8i _)) mm ?_
    refine pT rfl rfl rfl (fun h w m => r_fa h4) mm ?_
    refine pT rfl rfl rfl (fun h w m => r_ld (sel_t h) (m.b 0 rfl) rfl) mm ?_
    refine pT rfl rfl rfl (fun h w m => r_eq (sel_t h) (sel_t h)) mm ?_
    refine p1 rfl (fun w m => r_and rfl rfl) mm ?_
    refine p1 rfl (fun w m => r_asb rfl) mm ?_
    refine pn ?_
    refine c_ret (ret1 rfl rfl ⟨congrArg Value.bool (?_ : _ = true), mm.chg⟩)
    simp only [Bool.and_eq_true, decide_eq_true_eq]
    refine ⟨⟨⟨⟨trivial, trivial⟩, ?_⟩, e0⟩, e1⟩
    omega
  · have hz2 : ¬ 2 < x.kind := by simpa using h
    rw [if_neg hz2] at hlen
    refine c_sdraw mixed [(0, true), (1, true), (2, true), (3, true), (4, true), (5, true), (6, true), (7, true), (8, true), (9, true), (10, true), (11, true), (12, true), (13, true), (14, true), (15, true), (16, true), (17, true), (18, true), (19, true), (20, true), (21, true), (22, true), (23, true), (24, true), (25, true), (26, true), (27, true), (28, true), (29, true)] [true, true, true, true, true, true, true, true, true, true, true, true, true, true, true, true, true, true, true, true, true, true, true, true, true, true, true, true, true, true] (Sof mm) (by kernel_rfl) rfl rfl (by kernel_rfl) (fun w13 hc => ?_)
    have mm := mm.frame hc
    refine p1 rfl (fun w m => r_mvb h3) mm ?_
    refine p1 rfl (fun w m => r_mvb rfl) mm ?_
    refine pT rfl rfl rfl (fun h w m => r_mvi h6) mm ?_
    refine pT rfl rfl rfl (fun h w m => r_eq (sel_t h) rfl) mm ?_
    refine p1 rfl (fun w m => r_and rfl rfl) mm ?_
    refine p1 rfl (fun w m => r_mvb rfl) mm ?_
    refine pT rfl rfl rfl (fun h w m => r_mvs h5) mm ?_
    refine pT rfl rfl rfl (fun h w m => r_len (sel_t h)) mm ?_
    refine pT rfl rfl rfl (fun h w m => r_mvi h7) mm ?_
    refine pT rfl rfl rfl (fun h w m => r_eq (sel_t h) (sel_t h)) mm ?_
    refine p1 rfl (fun w m => r_and rfl rfl) mm ?_
    refine p1 rfl (fun w m => r_mvb rfl) mm ?_
    refine pT rfl rfl rfl (fun h w m => r_mvs h5) mm ?_
    refine pT rfl rfl rfl (fun h w m => r_ix (sel_t h) rfl (by omega) (by omega) hsome) mm ?_
    refine pT rfl rfl rfl (fun h w m => r_ldc (sel_t h) (m.c 1 rfl) rfl) mm ?_
    refine pT rfl rfl rfl (fun h w m => r_cv (sel_t h) (wu8i _)) mm ?_
    refine pT rfl rfl rfl (fun h w m => r_fa h4) mm ?_
    refine pT rfl rfl rfl (fun h w m => r_ld (sel_t h) (m.b 0 rfl) rfl) mm ?_
    refine pT rfl rfl rfl (fun h w m => r_eq (sel_t h) (sel_t h)) mm ?_
    refine p1 rfl (fun w m => r_and rfl rfl) mm ?_
    refine p1 rfl (fun w m => r_mvb rfl) mm ?_
    refine pT rfl rfl rfl (fun h w m => r_mvs h5) mm ?_
    refine pT rfl rfl rfl (fun h w m => r_ix (sel_t h) rfl (by omega) (by omega) hsome) mm ?_
    refine pT rfl rfl rfl (fun h w m => r_ldc (sel_t h) (m.c 1 rfl) rfl) mm ?_
    refine pT rfl rfl rfl (fun h w m => r_cv (sel_t h) (wu8i _)) mm ?_
    refine pT rfl rfl rfl (fun h w m => r_fa h4) mm ?_
    refine pT rfl rfl rfl (fun h w m => r_ld (sel_t h) (m.b 0 rfl) rfl) mm ?_
    refine pT rfl rfl rfl (fun h w m => r_eq (sel_t h) (sel_t h)) mm ?_
    refine p1 rfl (fun w m => r_and rfl rfl) mm ?_
    refine p1 rfl (fun w m => r_asb rfl) mm ?_
    refine pn ?_
    refine c_ret (ret1 rfl rfl ⟨congrArg Value.bool (?_ : _ = true), mm.chg⟩)
    simp only [Bool.and_eq_true, decide_eq_true_eq]
    refine ⟨⟨⟨⟨trivial, trivial⟩, ?_⟩, e0⟩, e1⟩
    omega
end Go.Proofs.Ytgdbbaggkoillaa

