/- kithlaw06.EventOdd: the walk. -/
import Derived.Test.YtgdbbaggkoillaaEz
import Derived.Test.YtgdbbaggkoillaaEo
namespace Go.Proofs.Ytgdbbaggkoillaa
open K
set_option maxRecDepth 100000
set_option maxHeartbeats 4000000

theorem rem8 (k : Nat) : (k : Int).tmod 8 = ((k % 8 : Nat) : Int) := rfl
theorem c_ePutN (x : Ev) (n : Int) (hx : evMay x = n) (hn : n ≠ 0) (w : World) : Cl Try.prog 20 #[.agg (evC x).toArray] w (fun v w' => ∃ a c, v = .tuple #[.slice a 0 c, .int .i64 n] ∧ Chg No w w') := by
  subst hx
  refine (c_ePut x w).mono fun v w' h => ?_
  rw [if_neg hn] at h
  obtain ⟨a, c, hv, hc, hnw⟩ := h
  exact ⟨a, c, hv, hc⟩
theorem K.Mem.cast_bk {w0 w : World} {F0 : Nat → Prop} {b : Nat} {cs cs' : List Value} {T : TypeId} (h : Mem w0 F0 w [bk b cs T]) (hc : cs = cs') : Mem w0 F0 w [bk b cs' T] := by subst hc; exact h

theorem c_EventOdd (a : Ev) (ha : EvIn a) (q : Nat) (w : World) : Cl Try.prog 4 #[.agg (evC a).toArray, .int .u8 q] w (fun v w' => v = .bool true ∧ Chg No w w') := by
  refine f_enter (args := [_, _]) Try.func4 rfl rfl ?_
  have mm := Mem.nil No w
  have hz := fitEv_ok a
  have hk := evMay_ok hz
  refine c_sreg rfl ?_
  refine so (o_bxa mm rfl fun b2 w2 mm => ?_)
  refine s1 (r_asb rfl) ?_
  refine wn ?_
  refine c_sreg rfl ?_
  refine so (o_c0 (c_shown6 _) ?_)
  rintro _ w3 ⟨rfl, hc⟩
  have mm := mm.frame hc
  refine s1 (r_asb rfl) ?_
  refine wn ?_
  refine c_sreg rfl ?_
  refine s1 (r_lda rfl (mm.b 0 rfl) rfl) ?_
  refine so (o_c1 rfl (c_fit6 a ha _) ?_)
  rintro _ w4 ⟨rfl, hc⟩
  have mm := mm.frame hc
  refine so (o_al mm fun b5 w5 mm => ?_)
  refine ss (o_sta mm 1 rfl rfl rfl rfl rfl (Nat.le_of_ble_eq_true rfl) fun w6 mm => ?_)
  refine wn ?_
  generalize hx : fitEv a = x at *
  have hn2 := hk.n2
  have hn1 := hk.n1
  have hkey8 := hk.key8
  have hr0 := hk.r0
  have hr5 := hk.r5
  have ht5 := tmod5 hk.r0 hk.r5
  refine c_sreg rfl ?_
  refine s1 (r_asi rfl) ?_
  refine wn ?_
  refine c_seq ?_
  refine c_sreg rfl ?_
  refine s1 (r_mvi rfl) ?_
  refine s1 (r_rem rfl rfl (by decide) (rem8 q)) ?_
  refine wn ?_
  have mm := mm.pk [1] (by decide)
  have mm : Mem w No w6 [bk b5 (evC x) 25] := mm
  have hq : q % 8 < 8 := Nat.mod_lt _ (by decide)
  have hm := fun k (h : k < 8) => odd_may hz k h
  refine c_mid0 (fun e w' => ∃ k, k < 8 ∧ e 5 = .bool true ∧ e 6 = .pointer (some ⟨b5, 0, none⟩) ∧ e 7 = .int .i64 (oddE k) ∧ Mem w No w' [bk b5 (evC (oddEv x k)) 25]) ?_ ?_
  · refine c_block ?_
    refine c_sreg rfl ?_
    refine s1 (r_eq rfl rfl) ?_
    refine s1 (r_asb rfl) ?_
    refine wn ?_
    refine c_cond rfl (fun h0 => ?_) (fun h0 => ?_)
    · refine c_region rfl ?_
      refine s1 (r_fa rfl) ?_
      refine ss (o_st mm 0 rfl rfl rfl rfl rfl fun w7 mm => ?_)
      refine wn (b_n (t_n ?_))
      exact ⟨0, by decide, rfl, rfl, rfl, mm⟩
    refine c_sreg rfl ?_
    refine s1 (r_eq rfl rfl) ?_
    refine s1 (r_asb rfl) ?_
    refine wn ?_
    refine c_cond rfl (fun h1 => ?_) (fun h1 => ?_)
    · refine c_region rfl ?_
      refine s1 (r_fa rfl) ?_
      refine s1 (r_ld rfl (mm.b 0 rfl) rfl) ?_
      refine s1 (r_add rfl rfl (wi (by omega) (by omega))) ?_
      refine s1 (r_fa rfl) ?_
      refine ss (o_st mm 0 rfl rfl rfl rfl rfl fun w8 mm => ?_)
      refine wn (b_n (t_n ?_))
      exact ⟨1, by decide, rfl, rfl, rfl, mm⟩
    refine c_sreg rfl ?_
    refine s1 (r_eq rfl rfl) ?_
    refine s1 (r_asb rfl) ?_
    refine wn ?_
    refine c_cond rfl (fun h2 => ?_) (fun h2 => ?_)
    · refine c_region rfl ?_
      refine s1 (r_fa rfl) ?_
      refine s1 (r_ld rfl (mm.b 0 rfl) rfl) ?_
      refine s1 (r_add rfl rfl (wi (by omega) (by omega))) ?_
      refine s1 (r_rem rfl rfl (by decide) rfl) ?_
      refine s1 (r_fa rfl) ?_
      refine s1 (r_ixa rfl rfl ht5.1 ht5.2) ?_
      refine ss (o_st mm 0 rfl rfl rfl rfl (blt_evr _ _ ht5.1 ht5.2) fun w9 mm => ?_)
      refine wn (b_n (t_n ?_))
      have mm := mm.cast_bk (setN_evr _ _ ht5.1 ht5.2 _)
      exact ⟨2, by decide, rfl, rfl, rfl, mm⟩
    refine c_sreg rfl ?_
    refine s1 (r_eq rfl rfl) ?_
    refine s1 (r_asb rfl) ?_
    refine wn ?_
    refine c_cond rfl (fun h3 => ?_) (fun h3 => ?_)
    · refine c_region rfl ?_
      refine s1 (r_fa rfl) ?_
      refine ss (o_st mm 0 rfl rfl rfl rfl rfl fun w10 mm => ?_)
      refine wn (b_n (t_n ?_))
      exact ⟨3, by decide, rfl, rfl, rfl, mm⟩
    refine c_sreg rfl ?_
    refine s1 (r_eq rfl rfl) ?_
    refine s1 (r_asb rfl) ?_
    refine wn ?_
    refine c_cond rfl (fun h4 => ?_) (fun h4 => ?_)
    · refine c_region rfl ?_
      refine s1 (r_fa rfl) ?_
      refine ss (o_st mm 0 rfl rfl rfl rfl rfl fun w11 mm => ?_)
      refine wn (b_n (t_n ?_))
      exact ⟨4, by decide, rfl, rfl, rfl, mm⟩
    refine c_sreg rfl ?_
    refine s1 (r_eq rfl rfl) ?_
    refine s1 (r_asb rfl) ?_
    refine wn ?_
    refine c_cond rfl (fun h5 => ?_) (fun h5 => ?_)
    · refine c_sreg rfl ?_
      refine s1 (r_fa rfl) ?_
      refine s1 (r_ld rfl (mm.b 0 rfl) rfl) ?_
      refine s1 (r_cat rfl rfl (by simp; omega)) ?_
      refine s1 (r_fa rfl) ?_
      refine ss (o_st mm 0 rfl rfl rfl rfl rfl fun w12 mm => ?_)
      refine wn ?_
      refine c_region rfl ?_
      refine s1 (r_asi rfl) ?_
      refine wn (b_n (t_n ?_))
      exact ⟨5, by decide, rfl, rfl, rfl, mm⟩
    refine c_sreg rfl ?_
    refine s1 (r_eq rfl rfl) ?_
    refine s1 (r_asb rfl) ?_
    refine wn ?_
    refine c_cond rfl (fun h6 => ?_) (fun h6 => ?_)
    · refine c_sreg rfl ?_
      refine s1 (r_fa rfl) ?_
      refine ss (o_st mm 0 rfl rfl rfl rfl rfl fun w13 mm => ?_)
      refine wn ?_
      refine c_region rfl ?_
      refine s1 (r_asi rfl) ?_
      refine wn (b_n (t_n ?_))
      exact ⟨6, by decide, rfl, rfl, rfl, mm⟩
    refine c_sreg rfl ?_
    refine s1 (r_fa rfl) ?_
    refine ss (o_st mm 0 rfl rfl rfl rfl rfl fun w14 mm => ?_)
    refine wn ?_
    refine c_region rfl ?_
    refine s1 (r_asi rfl) ?_
    refine wn (b_n (t_n ?_))
    exact ⟨7, by decide, rfl, rfl, rfl, mm⟩
  rintro e w9 ⟨k, hk8, h5, h6, h7, mm⟩
  have hy := hm k hk8
  have hne := oddE_ne k
  generalize oddEv x k = y at *
  generalize oddE k = want at *
  refine c_sreg rfl ?_
  refine s1 (r_lda h6 (mm.b 0 rfl) rfl) ?_
  refine so (o_c1 rfl (c_ePutN y want hy hne _) ?_)
  rintro _ w15 ⟨a15, c15, rfl, hc⟩
  have mm := mm.frame hc
  refine s1 (r_mvu rfl) ?_
  refine s1 (r_exts rfl rfl) ?_
  refine s1 (r_exti rfl rfl) ?_
  refine s1 (r_ass rfl) ?_
  refine s1 (r_asi rfl) ?_
  refine wn ?_
  refine c_sreg rfl ?_
  refine s1 (r_mvb h5) ?_
  refine s1 (r_mvb rfl) ?_
  refine sT rfl rfl (fun h => r_lda h6 (mm.b 0 rfl) rfl) ?_
  refine sTw (I := Sof mm) rfl rfl mm (fun h => o_c1 (sel_t h) (hy ▸ c_may y _) (fun _ _ hh => ⟨hh.1, mm.frame hh.2⟩)) (fun w16 mm => ?_)
  refine sT rfl rfl (fun h => r_mvi h7) ?_
  refine sT rfl rfl (fun h => r_eq (sel_t h) (sel_t h)) ?_
  refine s1 (r_and rfl rfl) ?_
  refine s1 (r_mvb rfl) ?_
  refine sT rfl rfl (fun h => r_mvi rfl) ?_
  refine sT rfl rfl (fun h => r_mvi h7) ?_
  refine sT rfl rfl (fun h => r_eq (sel_t h) (sel_t h)) ?_
  refine s1 (r_and rfl rfl) ?_
  refine s1 (r_mvb rfl) ?_
  refine sT rfl rfl (fun h => r_mvs rfl) ?_
  refine sT rfl rfl (fun h => r_len (sel_t h)) ?_
  refine sT rfl rfl (fun h => r_eq (sel_t h) rfl) ?_
  refine s1 (r_and rfl rfl) ?_
  refine s1 (r_asb rfl) ?_
  refine wn ?_
  refine c_ret (ret1 rfl rfl ⟨congrArg Value.bool (?_ : _ = true), mm.chg⟩)
  simp only [Bool.and_eq_true, decide_eq_true_eq]
  exact ⟨⟨⟨trivial, trivial⟩, trivial⟩, rfl⟩
end Go.Proofs.Ytgdbbaggkoillaa

