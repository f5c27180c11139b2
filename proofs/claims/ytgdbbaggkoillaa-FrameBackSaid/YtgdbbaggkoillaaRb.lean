/- record.Put: the walk. -/
import Derived.Test.YtgdbbaggkoillaaRa
namespace Go.Proofs.Ytgdbbaggkoillaa
open K
set_option maxRecDepth 100000
set_option maxHeartbeats 4000000

theorem c_rPut1 {w0 w : World} {F0 : Nat → Prop} {L : List It} (mm0 : Mem w0 F0 w L) (k k' : Nat) (x : Int) (hx : 0 ≤ x) (hx' : x ≤ 9223372036854775807) {bo c : Nat} {a : Option Addr} {pre : List UInt8}
    (hk : nth L k = some (bk bo [.slice a pre.length c] 28)) (hk' : nth L k' = some (own 5 1 a pre.length c (u8s pre))) (hkk : k ≠ k') (hlen : pre.length ≤ 1000000) :
    Cl Try.prog 56 #[.int .i64 x, .pointer (some ⟨bo, 0, none⟩)] w (fun v w' => v = .tuple #[] ∧ ∃ a' c', Mem w0 F0 w' (setN (setN L k (bk bo [.slice a' (pre ++ vput x.toNat).length c'] 28)) k' (own 5 1 a' (pre ++ vput x.toNat).length c' (u8s (pre ++ vput x.toNat))))) := by
  have mm := mm0.pick2 k k' hk hk' hkk
  have hl := vput_len10 x.toNat (by omega)
  refine f_enter (args := [_, _]) Try.func56 rfl rfl ?_
  refine c_draw mixed [(0, true), (1, true), (2, true), (3, false), (4, false), (5, false)] [true, true, true, true, false, false] (Sof mm) (by kernel_rfl) rfl rfl (by kernel_rfl) (fun w2 hc => ?_)
  have mm := mm.frame hc
  refine p1 rfl (fun w m => r_ld rfl (m.b 0 rfl) rfl) mm ?_
  refine p1 rfl (fun w m => r_mvi rfl) mm ?_
  refine p1 rfl (fun w m => r_cv rfl (wu64n hx hx')) mm ?_
  refine po rfl (o_c1 rfl (c_vput x.toNat (by omega) _) ?_)
  rintro _ w3 ⟨a3, c3, rfl, hc, hn⟩
  have mm := mm.new hc hn
  refine ⟨fun _ => mm.sub [0, 1] _ (by decide) rfl, ?_⟩
  refine po rfl (o_ap mm 1 rfl rfl rfl (src_own mm 2 rfl (ones_u8s _)) (by omega) (by unfold maxLen; omega) fun a4 c4 w4 mm => ⟨fun h => absurd rfl h, ?_⟩)
  refine ps rfl (o_st mm 0 rfl rfl rfl rfl rfl fun w5 mm => ⟨fun h => absurd rfl h, ?_⟩)
  refine pn (body_n ?_)
  have h2 := mm0.lift2 k k' hk hk' hkk (mm.sub [0, 1] _ (by decide) rfl)
  exact ret0 rfl ⟨rfl, _, _, by rw [List.length_append, u8s_append]; exact h2⟩
/-- Put's items: the record, the bytes, their variable, the kind's parts. -/
def rpL (x : Rec) (a : Option Addr) (cap b1 b4 b6 : Nat) (ao : Option Addr) (co : Nat) (pre : List UInt8) : List It :=
  [bk b1 (recV x a cap) 43, own 5 1 ao pre.length co (u8s pre), bk b4 [.slice ao pre.length co] 28, bk b6 [.bool (parts x.kind).1, .bool (parts x.kind).2.1, .bool (parts x.kind).2.2.1] 87]
theorem clkB_succ (c : Clk) (i : Nat) : clkB c (i + 1) = clkB c i ++ vput (c.get i).toNat := by
  unfold clkB
  rw [List.range_succ, List.flatMap_append]
  simp
theorem evsB_succ (l : List Ev) (i : Nat) (h : i < l.length) : evsB (l.take (i + 1)) = evsB (l.take i) ++ putE l[i] := by
  unfold evsB
  rw [List.take_succ_eq_append_getElem h, List.flatMap_append]
  simp
theorem evsB_len {l : List Ev} (h : ∀ y ∈ l, evMay y = 0) : (evsB l).length ≤ 44 * l.length := by
  induction l with
  | nil => exact Nat.le_refl _
  | cons x l ih =>
    have h1 := putE_le x (evMay_ok (h x (List.mem_cons_self ..)))
    have h2 := ih (fun y hy => h y (List.mem_cons_of_mem _ hy))
    have h3 : evsB (x :: l) = putE x ++ evsB l := List.flatMap_cons
    rw [h3, List.length_append, List.length_cons]
    omega
theorem clkB_len (c : Clk) (hc : ∀ i, i < 5 → 0 ≤ c.get i ∧ c.get i ≤ 1048576) : ∀ i, i ≤ 5 → (clkB c i).length ≤ 10 * i
  | 0, _ => Nat.le_refl _
  | i + 1, hi => by
    have h1 := clkB_len c hc i (by omega)
    have h2 := hc i (by omega)
    have h3 := vput_len10 (c.get i).toNat (by omega)
    rw [clkB_succ, List.length_append]
    omega
theorem c_rPut (x : Rec) {a : Option Addr} {cap : Nat} (w : World) (H : Cells w a (evsC x.es)) (hw : ClkW x.c) : Cl Try.prog 28 #[.agg (recV x a cap).toArray] w
    (fun v w' => ∃ a' c', v = .tuple #[.slice a' (recPut x).length c', .int .i64 (if recMay x then 0 else 1)] ∧ Chg No w w' ∧ New w w' (own 5 1 a' (recPut x).length c' (u8s (recPut x)))) := by
  refine f_enter (args := [_]) Try.func28 rfl rfl ?_
  have mm := Mem.nil No w
  refine c_sreg rfl ?_
  refine so (o_bxa mm rfl fun b2 w2 mm => ?_)
  refine s1 (r_ass rfl) ?_
  refine s1 (r_asi rfl) ?_
  refine wn ?_
  refine c_seq ?_
  refine c_sreg rfl ?_
  refine s1 (r_lda rfl (mm.b 0 rfl) rfl) ?_
  refine so (o_c1 rfl (c_recMay x _ (mm.ro H) hw) ?_)
  rintro _ w3 ⟨rfl, hc⟩
  have mm := mm.frame hc
  refine s1 (r_not rfl) ?_
  refine wn ?_
  refine c_cond rfl (fun h => ?_) (fun h => (c_skip (t_n ?_)))
  · have hz : recMay x = false := by simpa using h
    refine c_sreg rfl ?_
    refine s1 (r_ass rfl) ?_
    refine s1 (r_asi rfl) ?_
    refine wn ?_
    have e1 : recPut x = [] := by unfold recPut; rw [hz]; rfl
    rw [e1, hz]
    have mm := mm.nilrow (T := 5) (sz := 1)
    exact c_ret (ret2 rfl rfl rfl ⟨none, 0, rfl, mm.chg, mm.isNew 1 rfl⟩)
  have hz : recMay x = true := by simpa using h
  clear h
  have ok := recMay_ok hz
  have e1 : recPut x = putR x := by unfold recPut; rw [hz]; rfl
  rw [e1, hz]
  have hkin := parts_in ok.is
  refine c_sreg rfl ?_
  refine s1 (r_fa rfl) ?_
  refine s1 (r_ld rfl (mm.b 0 rfl) rfl) ?_
  refine s1 (r_cv rfl rfl) ?_
  refine s1 (r_fa rfl) ?_
  refine s1 (r_ld rfl (mm.b 0 rfl) rfl) ?_
  refine s1 (r_cv rfl rfl) ?_
  refine so (o_bi2 mm rfl rfl fun a4 c4 w4 mm => ?_)
  refine so (o_al mm fun b5 w5 mm => ?_)
  refine ss (o_st mm 2 rfl rfl rfl rfl rfl fun w6 mm => ?_)
  refine wn ?_
  rw [u8_int _ (by omega), u8_int _ ok.r0] at mm
  refine c_sreg rfl ?_
  refine s1 (r_fn1 rfl) ?_
  refine s1 (r_asf rfl) ?_
  refine wn ?_
  refine c_sreg rfl ?_
  refine s1 (r_fa rfl) ?_
  refine s1 (r_ld rfl (mm.b 0 rfl) rfl) ?_
  refine so (o_c1 rfl (c_parts x.kind _) ?_)
  rintro _ w7 ⟨rfl, hc⟩
  have mm := mm.frame hc
  refine s1 (r_mvu rfl) ?_
  refine s1 (r_extg rfl rfl) ?_
  refine s1 (r_extb rfl rfl) ?_
  refine so (o_al mm fun b8 w8 mm => ?_)
  refine ss (o_sta mm 3 rfl rfl rfl rfl rfl (Nat.le_of_ble_eq_true rfl) fun w9 mm => ?_)
  refine s1 (r_asb rfl) ?_
  refine wn ?_
  generalize hp0 : [UInt8.ofNat x.kind.toNat, UInt8.ofNat x.r.toNat] = p0 at *
  have hl0 : p0.length = 2 := by rw [← hp0]; rfl
  have hm0 : Mem w No _ (rpL x a cap b2 b5 b8 a4 c4 [UInt8.ofNat x.kind.toNat, UInt8.ofNat x.r.toNat]) := mm
  rw [hp0] at hm0
  clear mm
  have mm := hm0
  clear hm0
  have hu := vput_len10 x.upto.toNat (by have := ok.u1; omega)
  generalize hp1 : p0 ++ (if (parts x.kind).1 then vput x.upto.toNat else []) = p1
  have hl1 : p1.length ≤ 12 := by rw [← hp1, List.length_append, hl0]; split <;> first | omega | (simp; done) | (simp; omega)
  refine c_seq ?_
  refine c_sreg rfl ?_
  refine s1 (r_fa rfl) ?_
  refine s1 (r_ld rfl (mm.b 3 rfl) rfl) ?_
  refine wn ?_
  refine c_mid0 (fun e w' => ∃ ao co, e 1 = .pointer (some ⟨b2, 0, none⟩) ∧ e 4 = .pointer (some ⟨b5, 0, none⟩) ∧ e 5 = .func (.func 56) #[] #[.pointer (some ⟨b5, 0, none⟩)] ∧ e 6 = .pointer (some ⟨b8, 0, none⟩) ∧ Mem w No w' (rpL x a cap b2 b5 b8 ao co p1)) ?_ ?_
  · refine c_cond rfl (fun h => ?_) (fun h => (c_skip (t_n ?_)))
    · rw [if_pos h] at hp1
      refine c_region rfl ?_
      refine s1 (r_mvf rfl) ?_
      refine s1 (r_fa rfl) ?_
      refine s1 (r_ld rfl (mm.b 0 rfl) rfl) ?_
      refine so (o_f11 rfl rfl (c_rPut1 mm 2 1 x.upto ok.u0 (by have := ok.u1; omega) rfl rfl (by decide) (by omega)) ?_)
      rintro _ w10 ⟨rfl, a10, c10, mm⟩
      refine wn (t_n ?_)
      rw [hp1] at mm
      exact ⟨_, _, rfl, rfl, rfl, rfl, mm⟩
    · rw [h, if_neg (by decide), List.append_nil] at hp1
      subst hp1
      exact ⟨_, _, rfl, rfl, rfl, rfl, mm⟩
  clear mm hc
  rintro e w1 ⟨ao, co, h1, h4, h5, h6, mm⟩
  generalize hp2 : p1 ++ (if (parts x.kind).2.1 then clkB x.c 5 else []) = p2
  have hcl := clkB_len x.c ok.c 5 (Nat.le_refl _)
  have hl2 : p2.length ≤ 62 := by rw [← hp2, List.length_append]; split <;> first | omega | (simp; done) | (simp; omega)
  refine c_seq ?_
  refine c_sreg rfl ?_
  refine s1 (r_fa h6) ?_
  refine s1 (r_ld rfl (mm.b 3 rfl) rfl) ?_
  refine wn ?_
  refine c_mid0 (fun e w' => ∃ ao co, e 1 = .pointer (some ⟨b2, 0, none⟩) ∧ e 4 = .pointer (some ⟨b5, 0, none⟩) ∧ e 5 = .func (.func 56) #[] #[.pointer (some ⟨b5, 0, none⟩)] ∧ e 6 = .pointer (some ⟨b8, 0, none⟩) ∧ Mem w No w' (rpL x a cap b2 b5 b8 ao co p2)) ?_ ?_
  · refine c_cond rfl (fun h => ?_) (fun h => (c_skip (t_n ?_)))
    · rw [if_pos h] at hp2
      refine c_sreg rfl ?_
      refine s1 (r_fa h1) ?_
      refine s1 (r_lda rfl (mm.b 0 rfl) rfl) ?_
      refine s1 (r_mvi rfl) ?_
      refine wn ?_
      refine c_block ?_
      refine c_loop (fun k e w' => ∃ i ao co, k + i = 5 ∧ e 1 = .pointer (some ⟨b2, 0, none⟩) ∧ e 4 = .pointer (some ⟨b5, 0, none⟩) ∧ e 5 = .func (.func 56) #[] #[.pointer (some ⟨b5, 0, none⟩)] ∧ e 6 = .pointer (some ⟨b8, 0, none⟩) ∧ Mem w No w' (rpL x a cap b2 b5 b8 ao co (p1 ++ clkB x.c i)) ∧ e 41 = .agg (clkC x.c).toArray ∧ e 42 = .int .i64 (i : Nat)) 5 ?_ ?_
      · refine ⟨0, ao, co, rfl, h1, h4, h5, h6, ?_, rfl, rfl⟩
        have e0 : clkB x.c 0 = [] := rfl
        rw [e0, List.append_nil]
        exact mm
      clear mm h1 h4 h5 h6 h
      clear ao co
      rintro k e w2 ⟨i, ao, co, hki, h1, h4, h5, h6, mm, h41, h42⟩
      refine c_sreg rfl ?_
      refine s1 (r_lt h42 rfl) ?_
      refine wn ?_
      refine c_seq ?_
      refine c_cond rfl (fun h => (c_skip (t_n ?_))) (fun h => (c_exit (t_x (t_x (b_x (t_n ?_))))))
      · have hi : i < 5 := by simp at h; omega
        clear h
        have hci := ok.c i hi
        have hcl2 := clkB_len x.c ok.c i (by omega)
        refine c_seq ?_
        refine c_block ?_
        refine c_sreg rfl ?_
        refine s1 (r_ixv h41 h42 (by omega) (by omega) (nth_clk x.c _ (by omega))) ?_
        refine s1 (r_asi rfl) ?_
        refine wn ?_
        refine c_region rfl ?_
        refine s1 (r_mvf h5) ?_
        refine s1 (r_mvi rfl) ?_
        refine so (o_f11 rfl rfl (c_rPut1 mm 2 1 (x.c.get i) hci.1 (by omega) rfl rfl (by decide) (by rw [List.length_append]; omega)) ?_)
        rintro _ w11 ⟨rfl, a11, c11, mm⟩
        refine wn (b_n (t_n ?_))
        rw [List.append_assoc, ← clkB_succ] at mm
        refine c_region rfl ?_
        refine s1 (r_add h42 rfl (wi (by omega) (by omega))) ?_
        refine s1 (r_mvi rfl) ?_
        refine wn (t_n ?_)
        exact ⟨k - 1, by omega, i + 1, _, _, by omega, h1, h4, h5, h6, mm, h41, rfl⟩
      · have hi : i = 5 := by simp at h; omega
        subst hi
        rw [hp2] at mm
        exact ⟨_, _, h1, h4, h5, h6, mm⟩
    · rw [h, if_neg (by decide), List.append_nil] at hp2
      subst hp2
      exact ⟨_, _, h1, h4, h5, h6, mm⟩
  clear mm h1 h4 h5 h6
  clear ao co
  rintro e w1 ⟨ao, co, h1, h4, h5, h6, mm⟩
  have hl44 := evsB_len ok.es
  have hn := vput_len10 x.es.length (by have := ok.most; omega)
  have hmost := ok.most
  generalize hp3 : p2 ++ (if (parts x.kind).2.2.1 then vput x.es.length ++ evsB x.es else []) = p3
  have hl3 : p3.length ≤ 200000 := by
    rw [← hp3, List.length_append]
    split
    · rw [List.length_append]; omega
    · simp; omega
  have hbody : bodyR x = p3 := by rw [← hp3, ← hp2, ← hp1, ← hp0]; rfl
  refine c_seq ?_
  refine c_sreg rfl ?_
  refine s1 (r_fa h6) ?_
  refine s1 (r_ld rfl (mm.b 3 rfl) rfl) ?_
  refine wn ?_
  refine c_mid0 (fun e w' => ∃ ao co, e 1 = .pointer (some ⟨b2, 0, none⟩) ∧ e 4 = .pointer (some ⟨b5, 0, none⟩) ∧ e 5 = .func (.func 56) #[] #[.pointer (some ⟨b5, 0, none⟩)] ∧ e 6 = .pointer (some ⟨b8, 0, none⟩) ∧ Mem w No w' (rpL x a cap b2 b5 b8 ao co p3)) ?_ ?_
  · refine c_cond rfl (fun h => ?_) (fun h => (c_skip (t_n ?_)))
    · rw [if_pos h] at hp3
      clear h
      refine c_sreg rfl ?_
      refine s1 (r_mvf h5) ?_
      refine s1 (r_fa h1) ?_
      refine s1 (r_ld rfl (mm.b 0 rfl) rfl) ?_
      refine s1 (r_len rfl) ?_
      refine so (o_f11 rfl rfl (c_rPut1 mm 2 1 ((x.es.length : Nat) : Int) (by omega) (by omega) rfl rfl (by decide) (by omega)) ?_)
      rintro _ w12 ⟨rfl, a12, c12, mm⟩
      refine wn ?_
      refine c_sreg rfl ?_
      refine s1 (r_fa h1) ?_
      refine s1 (r_ld rfl (mm.b 0 rfl) rfl) ?_
      refine s1 (r_len rfl) ?_
      refine s1 (r_mvi rfl) ?_
      refine wn ?_
      generalize hq : p2 ++ vput (((x.es.length : Nat) : Int)).toNat = q at *
      have hlq : q.length ≤ 72 := by rw [← hq, List.length_append]; show _ + (vput x.es.length).length ≤ 72; omega
      have hq' : q ++ evsB x.es = p3 := by rw [← hq, ← hp3, List.append_assoc]; rfl
      refine c_block ?_
      refine c_loop (fun k e w' => ∃ i ao co, k + i = x.es.length ∧ e 1 = .pointer (some ⟨b2, 0, none⟩) ∧ e 4 = .pointer (some ⟨b5, 0, none⟩) ∧ e 5 = .func (.func 56) #[] #[.pointer (some ⟨b5, 0, none⟩)] ∧ e 6 = .pointer (some ⟨b8, 0, none⟩) ∧ Mem w No w' (rpL x a cap b2 b5 b8 ao co (q ++ evsB (x.es.take i))) ∧ e 57 = .slice a x.es.length cap ∧ e 58 = .int .i64 (x.es.length : Nat) ∧ e 59 = .int .i64 (i : Nat)) x.es.length ?_ ?_
      · obtain ⟨ao, co, mm⟩ : ∃ ao co, Mem w No _ (rpL x a cap b2 b5 b8 ao co q) := ⟨_, _, mm⟩
        refine ⟨0, ao, co, rfl, h1, h4, h5, h6, ?_, rfl, rfl, rfl⟩
        have e0 : evsB (x.es.take 0) = [] := rfl
        rw [e0, List.append_nil]
        exact mm
      clear mm h1 h4 h5 h6
      rintro k e w2 ⟨i, ao, co, hki, h1, h4, h5, h6, mm, h57, h58, h59⟩
      refine c_sreg rfl ?_
      refine s1 (r_lt h59 h58) ?_
      refine wn ?_
      refine c_seq ?_
      refine c_cond rfl (fun h => (c_skip (t_n ?_))) (fun h => (c_exit (t_x (t_x (b_x (t_n ?_))))))
      · have hi : i < x.es.length := by simp at h; omega
        clear h
        have hyz := ok.es x.es[i] (List.getElem_mem hi)
        have hyl := putE_le x.es[i] (evMay_ok hyz)
        have hel := evsB_len (l := x.es.take i) (fun y hy => ok.es y (List.mem_of_mem_take hy))
        rw [List.length_take] at hel
        have hel2 : (q ++ evsB (x.es.take i)).length ≤ 190000 := by rw [List.length_append]; omega
        refine c_seq ?_
        refine c_block ?_
        refine c_sreg rfl ?_
        refine s1 (r_ix h57 h59 (by omega) (by omega) (evs_some H hi)) ?_
        refine s1 (r_ldce rfl (mm.ro H) (seg_evs x.es i hi) (evs_le x.es i hi) (by decide)) ?_
        refine so (o_al mm fun b13 w13 mm => ?_)
        refine ss (o_sta mm 4 rfl rfl rfl rfl rfl (Nat.le_of_ble_eq_true rfl) fun w14 mm => ?_)
        refine wn ?_
        refine c_sreg rfl ?_
        refine s1 (r_lda rfl (mm.b 4 rfl) rfl) ?_
        refine so (o_c1 rfl (c_ePut0 x.es[i] hyz _ rfl _) ?_)
        rintro _ w15 ⟨a15, c15, rfl, hc, hn'⟩
        have mm := mm.new hc hn'
        refine s1 (r_mvu rfl) ?_
        refine s1 (r_exts rfl rfl) ?_
        refine s1 (r_exti rfl rfl) ?_
        refine s1 (r_ass rfl) ?_
        refine s1 (r_asi rfl) ?_
        refine wn ?_
        refine c_region rfl ?_
        refine s1 (r_ld h4 (mm.b 2 rfl) rfl) ?_
        refine s1 (r_mvs rfl) ?_
        refine so (o_ap mm 1 rfl rfl rfl (src_own mm 5 rfl (ones_u8s _)) (by omega) (by unfold maxLen; omega) fun a16 c16 w16 mm => ?_)
        refine ss (o_st mm 2 rfl h4 rfl rfl rfl fun w17 mm => ?_)
        refine wn (b_n (t_n ?_))
        have mm := mm.pk [0, 1, 2, 3] (by decide)
        rw [← u8s_append, List.append_assoc, ← evsB_succ _ _ hi] at mm
        have hle : (q ++ evsB (x.es.take i)).length + (putE x.es[i]).length = (q ++ evsB (x.es.take (i + 1))).length := by rw [evsB_succ _ _ hi, ← List.append_assoc, ← List.length_append]
        rw [hle] at mm
        refine c_region rfl ?_
        refine s1 (r_add h59 rfl (wi (by omega) (by omega))) ?_
        refine s1 (r_mvi rfl) ?_
        refine wn (t_n ?_)
        exact ⟨k - 1, by omega, i + 1, _, _, by omega, h1, h4, h5, h6, mm, h57, h58, rfl⟩
      · have hi : i = x.es.length := by simp at h; omega
        subst hi
        rw [List.take_length, hq'] at mm
        exact ⟨_, _, h1, h4, h5, h6, mm⟩
    · rw [h, if_neg (by decide), List.append_nil] at hp3
      subst hp3
      exact ⟨_, _, h1, h4, h5, h6, mm⟩
  clear mm h1 h4 h5 h6
  clear ao co
  rintro e w1 ⟨ao, co, h1, h4, h5, h6, mm⟩
  have hls := sealL_length p3
  refine c_sreg rfl ?_
  refine s1 (r_ld h4 (mm.b 2 rfl) rfl) ?_
  refine so (o_c1 rfl (c_seal p3 (by omega) _ _ ⟨_, _, rfl, own_le (mm.o 1 rfl), mm.c 1 rfl⟩) ?_)
  rintro _ w18 ⟨a18, c18, rfl, hc, hn'⟩
  have mm := mm.new hc hn'
  refine s1 (r_ass rfl) ?_
  refine wn ?_
  have hv := vput_len10 (sealL p3).length (by omega)
  have hput : putR x = vput (sealL p3).length ++ sealL p3 := by unfold putR; rw [hbody]
  refine c_sreg rfl ?_
  refine s1 (r_mvs rfl) ?_
  refine s1 (r_len rfl) ?_
  refine s1 (r_cv rfl (wu64n (by omega) (by omega))) ?_
  refine so (o_c1 rfl (c_vput (sealL p3).length (by omega) _) ?_)
  rintro _ w19 ⟨a19, c19, rfl, hc, hn'⟩
  have mm := mm.new hc hn'
  refine s1 (r_mvs rfl) ?_
  refine so (o_ap mm  5 rfl rfl rfl (src_own mm  4 rfl (ones_u8s _)) (by omega) (by unfold maxLen; omega) fun a20 c20 w20 mm => ?_)
  refine s1 (r_ass rfl) ?_
  refine s1 (r_asi rfl) ?_
  refine wn ?_
  rw [← u8s_append] at mm
  rw [hput, List.length_append]
  exact c_ret (ret2 rfl rfl rfl ⟨_, _, rfl, mm.chg, mm.isNew 5 rfl⟩)
end Go.Proofs.Ytgdbbaggkoillaa

