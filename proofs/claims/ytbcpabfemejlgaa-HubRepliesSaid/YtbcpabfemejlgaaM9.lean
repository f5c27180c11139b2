/- record.Put: the walk. -/
import Derived.Test.YtbcpabfemejlgaaM8
import Derived.Test.YtbcpabfemejlgaaM6
import Derived.Test.YtbcpabfemejlgaaM7
import Derived.Test.YtbcpabfemejlgaaM5
import Derived.Test.YtbcpabfemejlgaaM3
namespace Go.Proofs.Ytbcpabfemejlgaa
open K
set_option maxRecDepth 100000
set_option maxHeartbeats 4000000

theorem c_rPut1 {w0 w : World} {F0 : Nat → Prop} {L : List It} (mm0 : Mem w0 F0 w L) (k k' : Nat) (x : Int) (hx : 0 ≤ x) (hx' : x ≤ 9223372036854775807) {bo c : Nat} {a : Option Addr} {pre : List UInt8}
    (hk : nth L k = some (bk bo [.slice a pre.length c] 45)) (hk' : nth L k' = some (own 5 1 a pre.length c (u8s pre))) (hkk : k ≠ k') (hlen : pre.length ≤ 1000000) :
    Cl Try.prog 94 #[.int .i64 x, .pointer (some ⟨bo, 0, none⟩)] w (fun v w' => v = .tuple #[] ∧ ∃ a' c', Mem w0 F0 w' (setN (setN L k (bk bo [.slice a' (pre ++ vput x.toNat).length c'] 45)) k' (own 5 1 a' (pre ++ vput x.toNat).length c' (u8s (pre ++ vput x.toNat))))) := by
  have mm := mm0.pick2 k k' hk hk' hkk
  have hl := vput_len10 x.toNat (by omega)
  refine f_enter (args := [_, _]) Try.func94 rfl rfl ?_
  refine c_draw mixed [(0, true), (1, true), (2, true), (3, false), (4, false), (5, false)] [true, true, true, true, false, false] (Sof mm) (by kernel_rfl) rfl rfl (by kernel_rfl) (fun w2 hc => ?_)
  have mm := mm.frame hc
  refine p1 rfl (fun w m => r_ld rfl (m.b 0 rfl) rfl) mm ?_
  refine p1 rfl (fun w m => r_mvi rfl) mm ?_
  refine p1 rfl (fun w m => r_cv rfl (wu64n hx hx')) mm ?_
  refine po rfl (o_c1 rfl (c_vput x.toNat (by omega) _) ?_)
  rintro _ w3 ⟨a3, c3, rfl, hc, hn⟩
  have mm := mm.new hc hn
  refine ⟨fun _ => mm.sub [0, 1] _ (by decide) rfl, ?_⟩
  refine po rfl (o_ap mm 1 rfl rfl rfl (src_own mm 2 rfl (ones_u8s _)) (by omega) (by unfold maxLen; omega) fun a4 c4 w4 mm => ⟨fun h => absurd rfl h, ?_⟩)
  refine ps rfl (o_st mm 0 rfl rfl rfl rfl rfl fun w5 mm => ⟨fun h => absurd rfl h, ?_⟩)
  refine pn (body_n ?_)
  have h2 := mm0.lift2 k k' hk hk' hkk (mm.sub [0, 1] _ (by decide) rfl)
  exact ret0 rfl ⟨rfl, _, _, by rw [List.length_append, u8s_append]; exact h2⟩
/-- Put's items: the record, the bytes, their variable, the kind's parts. -/
def rpL (x : Rec) (a : Option Addr) (cap b1 b4 b6 : Nat) (ao : Option Addr) (co : Nat) (pre : List UInt8) : List It :=
  [bk b1 (recV x a cap) 84, own 5 1 ao pre.length co (u8s pre), bk b4 [.slice ao pre.length co] 45, bk b6 [.bool (parts x.kind).1, .bool (parts x.kind).2.1, .bool (parts x.kind).2.2.1] 142]
theorem clkB_succ (c : Clk) (i : Nat) : clkB c (i + 1) = clkB c i ++ vput (c.get i).toNat := by
  unfold clkB
  rw [List.range_succ, List.flatMap_append]
  simp
theorem evsB_succ (l : List Ev) (i : Nat) (h : i < l.length) : evsB (l.take (i + 1)) = evsB (l.take i) ++ putE l[i] := by
  unfold evsB
  rw [List.take_succ_eq_append_getElem h, List.flatMap_append]
  simp
theorem evsB_len {l : List Ev} (h : ∀ y ∈ l, evMay y = 0) : (evsB l).length ≤ 44 * l.length := by
  induction l with
  | nil => exact Nat.le_refl _
  | cons x l ih =>
    have h1 := putE_le x (evMay_ok (h x (List.mem_cons_self ..)))
    have h2 := ih (fun y hy => h y (List.mem_cons_of_mem _ hy))
    have h3 : evsB (x :: l) = putE x ++ evsB l := List.flatMap_cons
    rw [h3, List.length_append, List.length_cons]
    omega
theorem clkB_len (c : Clk) (hc : ∀ i, i < 5 → 0 ≤ c.get i ∧ c.get i ≤ 1048576) : ∀ i, i ≤ 5 → (clkB c i).length ≤ 10 * i
  | 0, _ => Nat.le_refl _
  | i + 1, hi => by
    have h1 := clkB_len c hc i (by omega)
    have h2 := hc i (by omega)
    have h3 := vput_len10 (c.get i).toNat (by omega)
    rw [clkB_succ, List.length_append]
    omega
theorem c_rPut (x : Rec) {a : Option Addr} {cap : Nat} (w : World) (H : Cells w a (evsC x.es)) (hw : ClkW x.c) : Cl Try.prog 70 #[.agg (recV x a cap).toArray] w
    (fun v w' => ∃ a' c', v = .tuple #[.slice a' (recPut x).length c', .int .i64 (if recMay x then 0 else 1)] ∧ Chg No w w' ∧ New w w' (own 5 1 a' (recPut x).length c' (u8s (recPut x)))) := by
  refine f_enter (args := [_]) Try.func70 rfl rfl ?_
  have mm := Mem.nil No w
  refine c_sreg rfl ?_
  refine so (o_bxa mm rfl fun b2 w2 mm => ?_)
  refine s1 (r_ass rfl) ?_
  refine s1 (r_asi rfl) ?_
  refine wn ?_
  refine c_seq ?_
  refine c_sreg rfl ?_
  refine s1 (r_lda rfl (mm.b 0 rfl) rfl) ?_
  refine so (o_c1 rfl (c_recMay x _ (mm.ro H) hw) ?_)
  rintro _ w3 ⟨rfl, hc⟩
  have mm := mm.frame hc
  refine s1 (r_not rfl) ?_
  refine wn ?_
  refine c_cond rfl (fun h => ?_) (fun h => (c_skip (t_n ?_)))
  · have hz : recMay x = false := by simpa using h
    refine c_sreg rfl ?_
    refine s1 (r_ass rfl) ?_
    refine s1 (r_asi rfl) ?_
    refine wn ?_
    have e1 : recPut x = [] := by unfold recPut; rw [hz]; rfl
    rw [e1, hz]
    have mm := mm.nilrow (T := 5) (sz := 1)
    exact c_ret (ret2 rfl rfl rfl ⟨none, 0, rfl, mm.chg, mm.isNew 1 rfl⟩)
  have hz : recMay x = true := by simpa using h
  clear h
  have ok := recMay_ok hz
  have e1 : recPut x = putR x := by unfold recPut; rw [hz]; rfl
  rw [e1, hz]
  have hkin := parts_in ok.is
  refine c_sreg rfl ?_
  refine s1 (r_fa rfl) ?_
  refine s1 (r_ld rfl (mm.b 0 rfl) rfl) ?_
  refine s1 (r_cv rfl rfl) ?_
  refine s1 (r_fa rfl) ?_
  refine s1 (r_ld rfl (mm.b 0 rfl) rfl) ?_
  refine s1 (r_cv rfl rfl) ?_
  refine so (o_bi2 mm rfl rfl fun a4 c4 w4 mm => ?_)
  refine so (o_al mm fun b5 w5 mm => ?_)
  refine ss (o_st mm 2 rfl rfl rfl rfl rfl fun w6 mm => ?_)
  refine wn ?_
  rw [u8_int _ (by omega), u8_int _ ok.r0] at mm
  refine c_sreg rfl ?_
  refine s1 (r_fn1 rfl) ?_
  refine s1 (r_asf rfl) ?_
  refine wn ?_
  refine c_sreg rfl ?_
  refine s1 (r_fa rfl) ?_
  refine s1 (r_ld rfl (mm.b 0 rfl) rfl) ?_
  refine so (o_c1 rfl (c_parts x.kind _) ?_)
  rintro _ w7 ⟨rfl, hc⟩
  have mm := mm.frame hc
  refine s1 (r_mvu rfl) ?_
  refine s1 (r_extg rfl rfl) ?_
  refine s1 (r_extb rfl rfl) ?_
  refine so (o_al mm fun b8 w8 mm => ?_)
  refine ss (o_sta mm 3 rfl rfl rfl rfl rfl (Nat.le_of_ble_eq_true rfl) fun w9 mm => ?_)
  refine s1 (r_asb rfl) ?_
  refine wn ?_
  generalize hp0 : [UInt8.ofNat x.kind.toNat, UInt8.ofNat x.r.toNat] = p0 at *
  have hl0 : p0.length = 2 := by rw [← hp0]; rfl
  have hm0 : Mem w No _ (rpL x a cap b2 b5 b8 a4 c4 [UInt8.ofNat x.kind.toNat, UInt8.ofNat x.r.toNat]) := mm
  rw [hp0] at hm0
  clear mm
  have mm := hm0
  clear hm0
  have hu := vput_len10 x.upto.toNat (by have := ok.u1; omega)
  generalize hp1 : p0 ++ (if (parts x.kind).1 then vput x.upto.toNat else []) = p1
  have hl1 : p1.length ≤ 12 := by rw [← hp1, List.length_append, hl0]; split <;> first | omega | (simp; done) | (simp; omega)
  refine c_seq ?_
  refine c_sreg rfl ?_
  refine s1 (r_fa rfl) ?_
  refine s1 (r_ld rfl (mm.b 3 rfl) rfl) ?_
  refine wn ?_
  refine c_mid0 (fun e w' => ∃ ao co, e 1 = .pointer (some ⟨b2, 0, none⟩) ∧ e 4 = .pointer (some ⟨b5, 0, none⟩) ∧ e 5 = .func (.func 94) #[] #[.pointer (some ⟨b5, 0, none⟩)] ∧ e 6 = .pointer (some ⟨b8, 0, none⟩) ∧ Mem w No w' (rpL x a cap b2 b5 b8 ao co p1)) ?_ ?_
  · refine c_cond rfl (fun h => ?_) (fun h => (c_skip (t_n ?_)))
    · rw [if_pos h] at hp1
      refine c_region rfl ?_
      refine s1 (r_mvf rfl) ?_
      refine s1 (r_fa rfl) ?_
      refine s1 (r_ld rfl (mm.b 0 rfl) rfl) ?_
      refine so (o_f11 rfl rfl (c_rPut1 mm 2 1 x.upto ok.u0 (by have := ok.u1; omega) rfl rfl (by decide) (by omega)) ?_)
      rintro _ w10 ⟨rfl, a10, c10, mm⟩
      refine wn (t_n ?_)
      rw [hp1] at mm
      exact ⟨_, _, rfl, rfl, rfl, rfl, mm⟩
    · rw [h, if_neg (by decide), List.append_nil] at hp1
      subst hp1
      exact ⟨_, _, rfl, rfl, rfl, rfl, mm⟩
  clear mm hc
  rintro e w1 ⟨ao, co, h1, h4, h5, h6, mm⟩
  generalize hp2 : p1 ++ (if (parts x.kind).2.1 then clkB x.c 5 else []) = p2
  have hcl := clkB_len x.c ok.c 5 (Nat.le_refl _)
  have hl2 : p2.length ≤ 62 := by rw [← hp2, List.length_append]; split <;> first | omega | (simp; done) | (simp; omega)
  refine c_seq ?_
  refine c_sreg rfl ?_
  refine s1 (r_fa h6) ?_
  refine s1 (r_ld rfl (mm.b 3 rfl) rfl) ?_
  refine wn ?_
  refine c_mid0 (fun e w' => ∃ ao co, e 1 = .pointer (some ⟨b2, 0, none⟩) ∧ e 4 = .pointer (some ⟨b5, 0, none⟩) ∧ e 5 = .func (.func 94) #[] #[.pointer (some ⟨b5, 0, none⟩)] ∧ e 6 = .pointer (some ⟨b8, 0, none⟩) ∧ Mem w No w' (rpL x a cap b2 b5 b8 ao co p2)) ?_ ?_
  · refine c_cond rfl (fun h => ?_) (fun h => (c_skip (t_n ?_)))
    · rw [if_pos h] at hp2
      refine c_sreg rfl ?_
      refine s1 (r_fa h1) ?_
      refine s1 (r_lda rfl (mm.b 0 rfl) rfl) ?_
      refine s1 (r_mvi rfl) ?_
      refine wn ?_
      refine c_block ?_
      refine c_loop (fun k e w' => ∃ i ao co, k + i = 5 ∧ e 1 = .pointer (some ⟨b2, 0, none⟩) ∧ e 4 = .pointer (some ⟨b5, 0, none⟩) ∧ e 5 = .func (.func 94) #[] #[.pointer (some ⟨b5, 0, none⟩)] ∧ e 6 = .pointer (some ⟨b8, 0, none⟩) ∧ Mem w No w' (rpL x a cap b2 b5 b8 ao co (p1 ++ clkB x.c i)) ∧ e 41 = .agg (clkC x.c).toArray ∧ e 42 = .int .i64 (i : Nat)) 5 ?_ ?_
      · refine ⟨0, ao, co, rfl, h1, h4, h5, h6, ?_, rfl, rfl⟩
        have e0 : clkB x.c 0 = [] := rfl
        rw [e0, List.append_nil]
        exact mm
      clear mm h1 h4 h5 h6 h
      clear ao co
      rintro k e w2 ⟨i, ao, co, hki, h1, h4, h5, h6, mm, h41, h42⟩
      refine c_sreg rfl ?_
      refine s1 (r_lt h42 rfl) ?_
      refine wn ?_
      refine c_seq ?_
      refine c_cond rfl (fun h => (c_skip (t_n ?_))) (fun h => (c_exit (t_x (t_x (b_x (t_n ?_))))))
      · have hi : i < 5 := by simp at h; omega
        clear h
        have hci := ok.c i hi
        have hcl2 := clkB_len x.c ok.c i (by omega)
        refine c_seq ?_
        refine c_block ?_
        refine c_sreg rfl ?_
        refine s1 (r_ixv h41 h42 (by omega) (by omega) (nth_clk x.c _ (by omega))) ?_
        refine s1 (r_asi rfl) ?_
        refine wn ?_
        refine c_region rfl ?_
        refine s1 (r_mvf h5) ?_
        refine s1 (r_mvi rfl) ?_
        refine so (o_f11 rfl rfl (c_rPut1 mm 2 1 (x.c.get i) hci.1 (by omega) rfl rfl (by decide) (by rw [List.length_append]; omega)) ?_)
        rintro _ w11 ⟨rfl, a11, c11, mm⟩
        refine wn (b_n (t_n ?_))
        rw [List.append_assoc, ← clkB_succ] at mm
        refine c_region rfl ?_
        refine s1 (r_add h42 rfl (wi (by omega) (by omega))) ?_
        refine s1 (r_mvi rfl) ?_
        refine wn (t_n ?_)
        exact ⟨k - 1, by omega, i + 1, _, _, by omega, h1, h4, h5, h6, mm, h41, rfl⟩
      · have hi : i = 5 := by simp at h; omega
        subst hi
        rw [hp2] at mm
        exact ⟨_, _, h1, h4, h5, h6, mm⟩
    · rw [h, if_neg (by decide), List.append_nil] at hp2
      subst hp2
      exact ⟨_, _, h1, h4, h5, h6, mm⟩
  clear mm h1 h4 h5 h6
  clear ao co
  rintro e w1 ⟨ao, co, h1, h4, h5, h6, mm⟩
  have hl44 := evsB_len ok.es
  have hn := vput_len10 x.es.length (by have := ok.most; omega)
  have hmost := ok.most
  generalize hp3 : p2 ++ (if (parts x.kind).2.2.1 then vput x.es.length ++ evsB x.es else []) = p3
  have hl3 : p3.length ≤ 200000 := by
    rw [← hp3, List.length_append]
    split
    · rw [List.length_append]; omega
    · simp; omega
  have hbody : bodyR x = p3 := by rw [← hp3, ← hp2, ← hp1, ← hp0]; rfl
  refine c_seq ?_
  refine c_sreg rfl ?_
  refine s1 (r_fa h6) ?_
  refine s1 (r_ld rfl (mm.b 3 rfl) rfl) ?_
  refine wn ?_
  refine c_mid0 (fun e w' => ∃ ao co, e 1 = .pointer (some ⟨b2, 0, none⟩) ∧ e 4 = .pointer (some ⟨b5, 0, none⟩) ∧ e 5 = .func (.func 94) #[] #[.pointer (some ⟨b5, 0, none⟩)] ∧ e 6 = .pointer (some ⟨b8, 0, none⟩) ∧ Mem w No w' (rpL x a cap b2 b5 b8 ao co p3)) ?_ ?_
  · refine c_cond rfl (fun h => ?_) (fun h => (c_skip (t_n ?_)))
    · rw [if_pos h] at hp3
      clear h
      refine c_sreg rfl ?_
      refine s1 (r_mvf h5) ?_
      refine s1 (r_fa h1) ?_
      refine s1 (r_ld rfl (mm.b 0 rfl) rfl) ?_
      refine s1 (r_len rfl) ?_
      refine so (o_f11 rfl rfl (c_rPut1 mm 2 1 ((x.es.length : Nat) : Int) (by omega) (by omega) rfl rfl (by decide) (by omega)) ?_)
      rintro _ w12 ⟨rfl, a12, c12, mm⟩
      refine wn ?_
      refine c_sreg rfl ?_
      refine s1 (r_fa h1) ?_
      refine s1 (r_ld rfl (mm.b 0 rfl) rfl) ?_
      refine s1 (r_len rfl) ?_
      refine s1 (r_mvi rfl) ?_
      refine wn ?_
      generalize hq : p2 ++ vput (((x.es.length : Nat) : Int)).toNat = q at *
      have hlq : q.length ≤ 72 := by rw [← hq, List.length_append]; show _ + (vput x.es.length).length ≤ 72; omega
      have hq' : q ++ evsB x.es = p3 := by rw [← hq, ← hp3, List.append_assoc]; rfl
      refine c_block ?_
      refine c_loop (fun k e w' => ∃ i ao co, k + i = x.es.length ∧ e 1 = .pointer (some ⟨b2, 0, none⟩) ∧ e 4 = .pointer (some ⟨b5, 0, none⟩) ∧ e 5 = .func (.func 94) #[] #[.pointer (some ⟨b5, 0, none⟩)] ∧ e 6 = .pointer (some ⟨b8, 0, none⟩) ∧ Mem w No w' (rpL x a cap b2 b5 b8 ao co (q ++ evsB (x.es.take i))) ∧ e 57 = .slice a x.es.length cap ∧ e 58 = .int .i64 (x.es.length : Nat) ∧ e 59 = .int .i64 (i : Nat)) x.es.length ?_ ?_
      · obtain ⟨ao, co, mm⟩ : ∃ ao co, Mem w No _ (rpL x a cap b2 b5 b8 ao co q) := ⟨_, _, mm⟩
        refine ⟨0, ao, co, rfl, h1, h4, h5, h6, ?_, rfl, rfl, rfl⟩
        have e0 : evsB (x.es.take 0) = [] := rfl
        rw [e0, List.append_nil]
        exact mm
      clear mm h1 h4 h5 h6
      rintro k e w2 ⟨i, ao, co, hki, h1, h4, h5, h6, mm, h57, h58, h59⟩
      refine c_sreg rfl ?_
      refine s1 (r_lt h59 h58) ?_
      refine wn ?_
      refine c_seq ?_
      refine c_cond rfl (fun h => (c_skip (t_n ?_))) (fun h => (c_exit (t_x (t_x (b_x (t_n ?_))))))
      · have hi : i < x.es.length := by simp at h; omega
        clear h
        have hyz := ok.es x.es[i] (List.getElem_mem hi)
        have hyl := putE_le x.es[i] (evMay_ok hyz)
        have hel := evsB_len (l := x.es.take i) (fun y hy => ok.es y (List.mem_of_mem_take hy))
        rw [List.length_take] at hel
        have hel2 : (q ++ evsB (x.es.take i)).length ≤ 190000 := by rw [List.length_append]; omega
        refine c_seq ?_
        refine c_block ?_
        refine c_sreg rfl ?_
        refine s1 (r_ix h57 h59 (by omega) (by omega) (evs_some H hi)) ?_
        refine s1 (r_ldce rfl (mm.ro H) (seg_evs x.es i hi) (evs_le x.es i hi) (by decide)) ?_
        refine so (o_al mm fun b13 w13 mm => ?_)
        refine ss (o_sta mm 4 rfl rfl rfl rfl rfl (Nat.le_of_ble_eq_true rfl) fun w14 mm => ?_)
        refine wn ?_
        refine c_sreg rfl ?_
        refine s1 (r_lda rfl (mm.b 4 rfl) rfl) ?_
        refine so (o_c1 rfl (c_ePut0 x.es[i] hyz _ rfl _) ?_)
        rintro _ w15 ⟨a15, c15, rfl, hc, hn'⟩
        have mm := mm.new hc hn'
        refine s1 (r_mvu rfl) ?_
        refine s1 (r_exts rfl rfl) ?_
        refine s1 (r_exti rfl rfl) ?_
        refine s1 (r_ass rfl) ?_
        refine s1 (r_asi rfl) ?_
        refine wn ?_
        refine c_region rfl ?_
        refine s1 (r_ld h4 (mm.b 2 rfl) rfl) ?_
        refine s1 (r_mvs rfl) ?_
        refine so (o_ap mm 1 rfl rfl rfl (src_own mm 5 rfl (ones_u8s _)) (by omega) (by unfold maxLen; omega) fun a16 c16 w16 mm => ?_)
        refine ss (o_st mm 2 rfl h4 rfl rfl rfl fun w17 mm => ?_)
        refine wn (b_n (t_n ?_))
        have mm := mm.pk [0, 1, 2, 3] (by decide)
        rw [← u8s_append, List.append_assoc, ← evsB_succ _ _ hi] at mm
        have hle : (q ++ evsB (x.es.take i)).length + (putE x.es[i]).length = (q ++ evsB (x.es.take (i + 1))).length := by rw [evsB_succ _ _ hi, ← List.append_assoc, ← List.length_append]
        rw [hle] at mm
        refine c_region rfl ?_
        refine s1 (r_add h59 rfl (wi (by omega) (by omega))) ?_
        refine s1 (r_mvi rfl) ?_
        refine wn (t_n ?_)
        exact ⟨k - 1, by omega, i + 1, _, _, by omega, h1, h4, h5, h6, mm, h57, h58, rfl⟩
      · have hi : i = x.es.length := by simp at h; omega
        subst hi
        rw [List.take_length, hq'] at mm
        exact ⟨_, _, h1, h4, h5, h6, mm⟩
    · rw [h, if_neg (by decide), List.append_nil] at hp3
      subst hp3
      exact ⟨_, _, h1, h4, h5, h6, mm⟩
  clear mm h1 h4 h5 h6
  clear ao co
  rintro e w1 ⟨ao, co, h1, h4, h5, h6, mm⟩
  have hls := sealL_length p3
  refine c_sreg rfl ?_
  refine s1 (r_ld h4 (mm.b 2 rfl) rfl) ?_
  refine so (o_c1 rfl (c_seal p3 (by omega) _ _ ⟨_, _, rfl, own_le (mm.o 1 rfl), mm.c 1 rfl⟩) ?_)
  rintro _ w18 ⟨a18, c18, rfl, hc, hn'⟩
  have mm := mm.new hc hn'
  refine s1 (r_ass rfl) ?_
  refine wn ?_
  have hv := vput_len10 (sealL p3).length (by omega)
  have hput : putR x = vput (sealL p3).length ++ sealL p3 := by unfold putR; rw [hbody]
  refine c_sreg rfl ?_
  refine s1 (r_mvs rfl) ?_
  refine s1 (r_len rfl) ?_
  refine s1 (r_cv rfl (wu64n (by omega) (by omega))) ?_
  refine so (o_c1 rfl (c_vput (sealL p3).length (by omega) _) ?_)
  rintro _ w19 ⟨a19, c19, rfl, hc, hn'⟩
  have mm := mm.new hc hn'
  refine s1 (r_mvs rfl) ?_
  refine so (o_ap mm  5 rfl rfl rfl (src_own mm  4 rfl (ones_u8s _)) (by omega) (by unfold maxLen; omega) fun a20 c20 w20 mm => ?_)
  refine s1 (r_ass rfl) ?_
  refine s1 (r_asi rfl) ?_
  refine wn ?_
  rw [← u8s_append] at mm
  rw [hput, List.length_append]
  exact c_ret (ret2 rfl rfl rfl ⟨_, _, rfl, mm.chg, mm.isNew 5 rfl⟩)
end Go.Proofs.Ytbcpabfemejlgaa
/- kithref06.Fit: walk. -/
namespace Go.Proofs.Ytbcpabfemejlgaa
open K
set_option maxRecDepth 100000
set_option maxHeartbeats 4000000

theorem nth_evi (x : Ev) (i : Nat) (h : i < 5) : nth (evC x) (0 + 2 + (i : Int).toNat * 1) = some (.int .i64 (x.c.get i)) := by
  match i, h with
  | 0, _ => rfl | 1, _ => rfl | 2, _ => rfl | 3, _ => rfl | 4, _ => rfl
theorem blt_evi (x : Ev) (i : Nat) (h : i < 5) : Nat.blt (0 + 2 + (i : Int).toNat * 1) (evC x).length = true := by
  match i, h with
  | 0, _ => rfl | 1, _ => rfl | 2, _ => rfl | 3, _ => rfl | 4, _ => rfl
theorem setN_evi (x : Ev) (i : Nat) (h : i < 5) (v : Int) : setN (evC x) (0 + 2 + (i : Int).toNat * 1) (.int .i64 v) = evC { x with c := x.c.set i v } := by
  match i, h with
  | 0, _ => rfl | 1, _ => rfl | 2, _ => rfl | 3, _ => rfl | 4, _ => rfl
theorem nth_evr (x : Ev) (r : Int) (h0 : 0 ≤ r) (h : r < 5) : nth (evC x) (0 + 2 + r.toNat * 1) = some (.int .i64 (x.c.get r.toNat)) := by
  obtain ⟨i, rfl⟩ := Int.eq_ofNat_of_zero_le h0
  exact nth_evi x i (by omega)
theorem blt_evr (x : Ev) (r : Int) (h0 : 0 ≤ r) (h : r < 5) : Nat.blt (0 + 2 + r.toNat * 1) (evC x).length = true := by
  obtain ⟨i, rfl⟩ := Int.eq_ofNat_of_zero_le h0
  exact blt_evi x i (by omega)
theorem setN_evr (x : Ev) (r : Int) (h0 : 0 ≤ r) (h : r < 5) (v : Int) : setN (evC x) (0 + 2 + r.toNat * 1) (.int .i64 v) = evC { x with c := x.c.set r.toNat v } := by
  obtain ⟨i, rfl⟩ := Int.eq_ofNat_of_zero_le h0
  exact setN_evi x i (by omega) v
def ev0 : Ev := ⟨0, 0, clk0, 0, 0, [], 0, []⟩
theorem K.Mem.castb {w0 w : World} {F0 : Nat → Prop} {I J K : It} {b : Nat} {cs cs' : List Value} {T : TypeId} (h : Mem w0 F0 w [I, J, K, bk b cs T]) (hc : cs = cs') : Mem w0 F0 w [I, J, K, bk b cs' T] := by subst hc; exact h

end Go.Proofs.Ytbcpabfemejlgaa
/- kithref18.Fit, kithlaw18.shown: walks. -/
namespace Go.Proofs.Ytbcpabfemejlgaa
open K
set_option maxRecDepth 100000
set_option maxHeartbeats 4000000

structure RecIn (x : Rec) : Prop where
  kind : i64 x.kind
  r : i64 x.r
  upto : i64 x.upto
  c : ∀ i, i < 5 → i64 (x.c.get i)
  len : x.es.length < 2 ^ 47
  es : ∀ y ∈ x.es, EvIn y
theorem nth_rvi (x : Rec) (a : Option Addr) (cap : Nat) (i : Nat) (h : i < 5) : nth (recV x a cap) (0 + 3 + (i : Int).toNat * 1) = some (.int .i64 (x.c.get i)) := by
  match i, h with
  | 0, _ => rfl | 1, _ => rfl | 2, _ => rfl | 3, _ => rfl | 4, _ => rfl
theorem blt_rvi (x : Rec) (a : Option Addr) (cap : Nat) (i : Nat) (h : i < 5) : Nat.blt (0 + 3 + (i : Int).toNat * 1) (recV x a cap).length = true := by
  match i, h with
  | 0, _ => rfl | 1, _ => rfl | 2, _ => rfl | 3, _ => rfl | 4, _ => rfl
theorem setN_rvi (x : Rec) (a : Option Addr) (cap : Nat) (i : Nat) (h : i < 5) (v : Int) : setN (recV x a cap) (0 + 3 + (i : Int).toNat * 1) (.int .i64 v) = recV { x with c := x.c.set i v } a cap := by
  match i, h with
  | 0, _ => rfl | 1, _ => rfl | 2, _ => rfl | 3, _ => rfl | 4, _ => rfl
def rec0 : Rec := ⟨0, 0, 0, clk0, []⟩
theorem K.Mem.castc {w0 w : World} {F0 : Nat → Prop} {I J : It} {b : Nat} {cs cs' : List Value} {T : TypeId} (h : Mem w0 F0 w [I, J, bk b cs T]) (hc : cs = cs') : Mem w0 F0 w [I, J, bk b cs' T] := by subst hc; exact h
theorem K.Mem.castd {w0 w : World} {F0 : Nat → Prop} {I J : It} {b : Nat} {cs cs' ds ds' : List Value} {T T' : TypeId} {sz n n' c : Nat} {a : Option Addr} (h : Mem w0 F0 w [I, J, bk b cs T, own T' sz a n c ds]) (hc : cs = cs') (hn : n = n') (hd : ds = ds') : Mem w0 F0 w [I, J, bk b cs' T, own T' sz a n' c ds'] := by subst hc; subst hn; subst hd; exact h
theorem clkW_of {c : Clk} (h : ∀ i, i < 5 → i64 (c.get i)) : ClkW c := ⟨h 0 (by decide), h 1 (by decide), h 2 (by decide), h 3 (by decide), h 4 (by decide)⟩

theorem fitEs_snoc (l : List Ev) (i : Nat) (h : i < l.length) (hi : i < 30) : fitEs (l.take (i + 1)) = fitEs (l.take i) ++ [fitEv l[i]] := by
  unfold fitEs
  rw [List.take_take, List.take_take, Nat.min_eq_right (by omega), Nat.min_eq_right (by omega), List.take_succ_eq_append_getElem h, List.map_append]; rfl
theorem fitEs_all (l : List Ev) : fitEs (l.take 30) = fitEs l := by
  unfold fitEs
  rw [List.take_take, Nat.min_self]
theorem fitEs_len2 (l : List Ev) (i : Nat) (h : i ≤ l.length) (hi : i ≤ 30) : (fitEs (l.take i)).length = i := by
  unfold fitEs
  rw [List.length_map, List.length_take, List.length_take]; omega
def NewR (w w' : World) (a : Option Addr) (cap : Nat) (l : List Ev) : Prop := New w w' (own 67 12 a l.length cap (evsC l))
theorem putR_shown : recPut ⟨3, 1, 2, clk0, []⟩ = [7] ++ sealL [3, 1, 2] := by
  have h2 : vput 2 = [2] := by rw [vput]; rfl
  have h7 : vput 7 = [7] := by rw [vput]; rfl
  have hb : bodyR ⟨3, 1, 2, clk0, []⟩ = [3, 1, 2] := by
    show [UInt8.ofNat 3, UInt8.ofNat 1] ++ vput 2 ++ [] ++ [] = _
    rw [h2]; rfl
  show putR ⟨3, 1, 2, clk0, []⟩ = _
  unfold putR
  rw [hb, sealL_length]
  show vput 7 ++ _ = _
  rw [h7]
end Go.Proofs.Ytbcpabfemejlgaa
/- kithref06.Same: the walk. -/
namespace Go.Proofs.Ytbcpabfemejlgaa
open K
set_option maxRecDepth 100000
set_option maxHeartbeats 4000000

def Sle (w : World) (v : Value) (l : List Ev) : Prop := ∃ a c, v = .slice a l.length c ∧ Cells w a (evsC l)
theorem c_same6 (l l' : List Ev) (hl : ∀ y ∈ l, EvW y) (hm : ∀ y ∈ l', EvW y) (hll : l.length ≤ 1000000000000000) (v u : Value) (w : World) (hs : Sle w v l) (ht : Sle w u l') : Cl Try.prog 15 #[v, u] w (fun r w' => r = .bool (decide (l = l')) ∧ Chg No w w') := by
  obtain ⟨a, c, rfl, H⟩ := hs
  obtain ⟨a', c', rfl, H'⟩ := ht
  refine f_enter (args := [_, _]) Try.func15 rfl rfl ?_
  have mm := Mem.nil No w
  refine c_sreg rfl ?_
  refine s1 (r_asb rfl) ?_
  refine wn ?_
  refine c_seq ?_
  refine c_sreg rfl ?_
  refine s1 (r_mvs rfl) ?_
  refine s1 (r_len rfl) ?_
  refine s1 (r_mvs rfl) ?_
  refine s1 (r_len rfl) ?_
  refine s1 (r_ne rfl rfl) ?_
  refine wn ?_
  refine c_cond rfl (fun h => ?_) (fun h => (c_skip (t_n ?_)))
  · refine c_sreg rfl ?_
    refine s1 (r_asb rfl) ?_
    refine wn ?_
    refine c_ret (ret1 rfl rfl ⟨congrArg Value.bool ?_, mm.chg⟩)
    refine (decide_eq_false fun hq => ?_).symm
    rw [hq] at h
    simp at h
  have hlen : l.length = l'.length := by simp at h; omega
  clear h
  refine c_seq ?_
  refine c_sreg rfl ?_
  refine s1 (r_asi rfl) ?_
  refine wn ?_
  refine c_block ?_
  refine c_loop (fun k e w' => ∃ i, k + i = l.length ∧ e 0 = .slice a l.length c ∧ e 1 = .slice a' l'.length c' ∧ e 5 = .int .i64 (i : Nat) ∧ Mem w No w' [] ∧ l.take i = l'.take i) l.length ?_ ?_
  · exact ⟨0, rfl, rfl, rfl, rfl, mm, rfl⟩
  clear mm
  rintro k e w9 ⟨i, hki, h0, h1, h5, mm, hall⟩
  refine c_seq ?_
  refine c_sreg rfl ?_
  refine s1 (r_mvi h5) ?_
  refine s1 (r_mvs h0) ?_
  refine s1 (r_len rfl) ?_
  refine s1 (r_lt rfl rfl) ?_
  refine wn ?_
  refine c_cond rfl (fun h => (c_skip (t_n ?_))) (fun h => (c_exit (t_x (t_x (b_x (t_n ?_))))))
  · have hi : i < l.length := by simp at h; omega
    clear h
    have hi' : i < l'.length := by omega
    refine c_seq ?_
    refine c_block ?_
    refine c_sdraw mixed [(0, true), (1, true), (2, true), (3, true), (4, true), (5, true), (6, true), (7, true), (8, true)] [true, true, true, true, true, true, true, true, true] (Sof mm) (by kernel_rfl) rfl rfl (by kernel_rfl) (fun w2 hc => ?_)
    have mm := mm.frame hc
    refine p1 rfl (fun w m => r_mvs h0) mm ?_
    refine p1 rfl (fun w m => r_mvi h5) mm ?_
    refine p1 rfl (fun w m => r_ix rfl rfl (by omega) (by omega) (evs_some H hi)) mm ?_
    refine p1 rfl (fun w m => r_ldce rfl (m.ro H) (seg_evs l i hi) (evs_le l i hi) (by decide)) mm ?_
    refine p1 rfl (fun w m => r_mvs h1) mm ?_
    refine p1 rfl (fun w m => r_mvi h5) mm ?_
    refine p1 rfl (fun w m => r_ix rfl rfl (by omega) (by omega) (evs_some H' hi')) mm ?_
    refine p1 rfl (fun w m => r_ldce rfl (m.ro H') (seg_evs l' i hi') (evs_le l' i hi') (by decide)) mm ?_
    refine p1 rfl (fun w m => r_nea ev_guard (ev_eq _ _ (hl _ (List.getElem_mem hi)) (hm _ (List.getElem_mem hi'))) rfl rfl) mm ?_
    refine pn ?_
    refine c_cond rfl (fun h => ?_) (fun h => (c_skip (b_n (t_n ?_))))
    · refine c_sreg rfl ?_
      refine s1 (r_asb rfl) ?_
      refine wn ?_
      refine c_ret (ret1 rfl rfl ⟨congrArg Value.bool ?_, mm.chg⟩)
      refine (decide_eq_false fun hq => ?_).symm
      subst hq
      simp at h
    have he : l[i] = l'[i] := by simpa using h
    refine c_region rfl ?_
    refine s1 (r_mvi h5) ?_
    refine s1 (r_add rfl rfl (wi (by omega) (by omega))) ?_
    refine s1 (r_asi rfl) ?_
    refine wn (t_n ?_)
    refine ⟨k - 1, by omega, i + 1, by omega, h0, h1, rfl, mm, ?_⟩
    rw [List.take_succ_eq_append_getElem hi, List.take_succ_eq_append_getElem hi', hall, he]
  · have hi : i = l.length := by simp at h; omega
    subst hi
    refine c_sreg rfl ?_
    refine s1 (r_asb rfl) ?_
    refine wn ?_
    refine c_ret (ret1 rfl rfl ⟨congrArg Value.bool ?_, mm.chg⟩)
    refine (decide_eq_true ?_).symm
    rw [List.take_length, hlen, List.take_length] at hall
    exact hall

structure RecW (x : Rec) : Prop where
  c : ClkW x.c
  es : ∀ y ∈ x.es, EvW y
  len : x.es.length ≤ 1000000000000000
theorem rec_ext {x y : Rec} (h1 : x.kind = y.kind) (h2 : x.r = y.r) (h3 : x.upto = y.upto) (h4 : x.c = y.c) (h5 : x.es = y.es) : x = y := by cases x; cases y; simp_all
end Go.Proofs.Ytbcpabfemejlgaa
/- A number's digits, low first; plain. -/
namespace Go.Proofs.Ytbcpabfemejlgaa
open K
def vval : List UInt8 → Nat
  | [] => 0
  | c :: l => vval l * 128 + c.toNat % 128
theorem vval_put : ∀ n, vval (vput n) = n := by
  intro n
  induction n using Nat.strongRecOn with
  | _ n ih =>
    by_cases h : n < 128
    · rw [vput_low n h]
      show 0 * 128 + (UInt8.ofNat n).toNat % 128 = n
      rw [toNat_low n h]; omega
    · rw [vput_more n (by omega)]
      show vval (vput (n / 128)) * 128 + (UInt8.ofNat (n % 128 + 128)).toNat % 128 = n
      rw [ih (n / 128) (by omega), toNat_more]; omega
/-- Of a number's bytes all but the last have the high bit. -/
theorem vput_high : ∀ (n i : Nat), i + 1 < (vput n).length → 128 ≤ ((vput n).getD i 0).toNat := by
  intro n
  induction n using Nat.strongRecOn with
  | _ n ih =>
    intro i hi
    by_cases h : n < 128
    · rw [vput_low n h] at hi; simp at hi
    · rw [vput_more n (by omega)] at hi ⊢
      cases i with
      | zero => show 128 ≤ (UInt8.ofNat (n % 128 + 128)).toNat; rw [toNat_more]; omega
      | succ i => exact ih (n / 128) (by omega) i (by simpa using hi)
theorem vput_last : ∀ (n : Nat), ((vput n).getD ((vput n).length - 1) 0).toNat < 128 := by
  intro n
  induction n using Nat.strongRecOn with
  | _ n ih =>
    by_cases h : n < 128
    · rw [vput_low n h]; show (UInt8.ofNat n).toNat < 128; rw [toNat_low n h]; exact h
    · have hp := vput_pos (n / 128)
      rw [vput_more n (by omega), List.length_cons]
      have h1 : (vput (n / 128)).length + 1 - 1 = ((vput (n / 128)).length - 1) + 1 := by omega
      rw [h1]
      exact ih (n / 128) (by omega)
theorem vgo_put10 (rest : List UInt8) : ∀ (n i m : Nat), i + (vput n).length ≤ 10 → n * 128 ^ i < 2 ^ 64 → (i = 0 ∨ n ≠ 0) → vgo (vput n ++ rest) i m = (m + n * 128 ^ i, i + (vput n).length, 0) := by
  intro n
  induction n using Nat.strongRecOn with
  | _ n ih =>
    intro i m hl h64 h0
    by_cases h : n < 128
    · rw [vput_low n h] at hl ⊢
      have hl : i + 1 ≤ 10 := hl
      show (if 10 ≤ i then _ else _) = _
      rw [if_neg (by omega), toNat_low n h, if_neg (by omega), if_neg]
      · rfl
      · rintro (⟨h1, h2⟩ | ⟨h1, h2⟩)
        · omega
        · subst h1
          have : 2 * 128 ^ 9 ≤ n * 128 ^ 9 := Nat.mul_le_mul_right _ h2
          have h3 : (2 : Nat) * 128 ^ 9 = 2 ^ 64 := by decide
          omega
    · rw [vput_more n (by omega)] at hl ⊢
      rw [List.length_cons] at hl
      have hp := vput_pos (n / 128)
      have hs : n / 128 * 128 ^ (i + 1) ≤ n * 128 ^ i := by
        rw [Nat.pow_succ, Nat.mul_comm (128 ^ i) 128, ← Nat.mul_assoc]
        exact Nat.mul_le_mul_right _ (Nat.div_mul_le_self n 128)
      simp only [List.cons_append, vgo]
      rw [if_neg (by omega), toNat_more, if_pos (by omega), ih (n / 128) (by omega) (i + 1) _ (by omega) (by omega) (.inr (by omega))]
      have h1 : (n % 128 + 128) % 128 = n % 128 := by omega
      have h2 := pow_step n i
      rw [h1, List.length_cons]
      refine Prod.ext ?_ (Prod.ext ?_ rfl)
      · show m + n % 128 * 128 ^ i + n / 128 * 128 ^ (i + 1) = m + n * 128 ^ i
        omega
      · show i + 1 + (vput (n / 128)).length = i + ((vput (n / 128)).length + 1)
        omega
theorem vtake_put10 (n : Nat) (h : n < 2 ^ 64) (rest : List UInt8) : vtake (vput n ++ rest) = (n, (vput n).length, 0) := by
  have h1 := vgo_put10 rest n 0 0 (by have := vput_len10 n h; omega) (by simpa using h) (.inl rfl)
  unfold vtake
  rw [h1]
  simp
theorem vgo_lt : ∀ (l : List UInt8) (i m n k : Nat), vgo l i m = (n, k, 0) → m < 128 ^ i → i ≤ 9 → n < 2 ^ 64
  | [], i, m, n, k, h, _, _ => by
    unfold vgo at h
    split at h <;> cases h
  | c :: l, i, m, n, k, h, hm, hi => by
    rw [vgo, if_neg (by omega)] at h
    have hp : 128 ^ (i + 1) = 128 ^ i * 128 := Nat.pow_succ ..
    have hc := c.toNat_lt
    split at h
    · have h1 : m + c.toNat % 128 * 128 ^ i < 128 ^ (i + 1) := by
        have : c.toNat % 128 * 128 ^ i ≤ 127 * 128 ^ i := Nat.mul_le_mul_right _ (by omega)
        omega
      rcases Nat.lt_or_ge i 9 with h9 | h9
      · exact vgo_lt l (i + 1) _ n k h h1 (by omega)
      · have : i = 9 := by omega
        subst this
        rw [vgo10] at h; cases h
    · split at h
      · cases h
      · rename_i h2 h3
        injection h with h4 h5
        rw [← h4]
        rcases Nat.lt_or_ge i 9 with h9 | h9
        · have h6 : c.toNat * 128 ^ i ≤ 127 * 128 ^ i := Nat.mul_le_mul_right _ (by omega)
          have h7 : (128 : Nat) ^ (i + 1) ≤ 128 ^ 9 := Nat.pow_le_pow_right (by decide) (by omega)
          have h8 : (128 : Nat) ^ 9 < 2 ^ 64 := by decide
          omega
        · have : i = 9 := by omega
          subst this
          have h6 : c.toNat ≤ 1 := by
            rcases Nat.lt_or_ge 1 c.toNat with hx | hx
            · exact absurd (.inr ⟨rfl, hx⟩) h3
            · exact hx
          have h7 : c.toNat * 128 ^ 9 ≤ 1 * 128 ^ 9 := Nat.mul_le_mul_right _ h6
          have h8 : (128 : Nat) ^ 9 + 128 ^ 9 = 2 ^ 64 := by decide
          omega
theorem vtake_lt {b : List UInt8} {n k : Nat} (h : vtake b = (n, k, 0)) : n < 2 ^ 64 := vgo_lt b 0 0 n k h (by decide) (by decide)
/-- A number taken: its last byte is the first low one. -/
theorem vtake_first {b : List UInt8} {n k i : Nat} (h : vtake b = (n, k, 0)) (hi : i < b.length) (hh : ∀ j, j < i → 128 ≤ (b.getD j 0).toNat) (hlow : (b.getD i 0).toNat < 128) : k = i + 1 := by
  obtain ⟨h1, h2, h3, _⟩ := vtake_ok h
  have hp := vput_pos n
  have hg : ∀ j, j < k → b.getD j 0 = (vput n).getD j 0 := fun j hj => by
    rw [← h1]
    simp only [List.getD]
    rw [List.getElem?_take, if_pos hj]
  rcases Nat.lt_trichotomy i (k - 1) with hlt | heq | hgt
  · have h4 := vput_high n i (by omega)
    rw [← hg i (by omega)] at h4
    omega
  · omega
  · have h4 := vput_last n
    rw [← h2, ← hg (k - 1) (by omega)] at h4
    have := hh (k - 1) hgt
    omega
theorem vtake_none_high {b : List UInt8} (hh : ∀ j, j < min b.length 10 → 128 ≤ (b.getD j 0).toNat) : (vtake b).2.2 ≠ 0 := by
  intro h0
  have e : vtake b = ((vtake b).1, (vtake b).2.1, 0) := by rw [← h0]
  obtain ⟨h1, h2, h3, h4⟩ := vtake_ok e
  have hp := vput_pos (vtake b).1
  have h5 := vput_last (vtake b).1
  rw [← h2, ← h1] at h5
  have h6 := hh ((vtake b).2.1 - 1) (by omega)
  simp only [List.getD] at h5 h6
  rw [List.getElem?_take, if_pos (by omega)] at h5
  omega
end Go.Proofs.Ytbcpabfemejlgaa
/- event.Take's closures: walks. -/
namespace Go.Proofs.Ytbcpabfemejlgaa
open K
set_option maxRecDepth 100000
set_option maxHeartbeats 4000000

theorem Sl.drop {w : World} {a : Option Addr} {c : Nat} {s : List UInt8} (H : Cells w a (u8s s)) (hc : s.length ≤ c) (l : Nat) (hl : l ≤ s.length) : Sl w (.slice (slA a c l 1) (s.length - l) (c - l)) (s.drop l) := by
  refine ⟨slA a c l 1, c - l, by rw [List.length_drop], by rw [List.length_drop]; omega, ?_⟩
  have := H.sl (n := s.length) (c := c) (sz := 1) (by rw [u8s_length]; omega) hc l
  rw [Nat.mul_one] at this
  unfold u8s at this ⊢
  rw [List.map_drop]
  exact this

def pE (b : Nat) : Value := .pointer (some ⟨b, 0, none⟩)
def fF (bE : Nat) : Value := .func (.func 80) #[] #[.pointer (some ⟨bE, 0, none⟩)]
def fO (bE bL bF : Nat) : Value := .func (.func 81) #[] #[.pointer (some ⟨bE, 0, none⟩), .pointer (some ⟨bL, 0, none⟩), .pointer (some ⟨bF, 0, none⟩)]
def tkL (bR bE bL bF bO : Nat) (cs : List Value) (e : Int) (v : Value) : List It :=
  [bk bR cs 67, bk bE [.int .i64 e] 26, bk bL [v] 45, bk bF [.func (.func 80) #[] #[.pointer (some ⟨bE, 0, none⟩)]] 137, bk bO [.func (.func 81) #[] #[.pointer (some ⟨bE, 0, none⟩), .pointer (some ⟨bL, 0, none⟩), .pointer (some ⟨bF, 0, none⟩)]] 138]
section
variable {w0 w : World} {bR bE bL bF bO : Nat} {cs : List Value} {er : Int} {v : Value} {s : List UInt8}
theorem c_tk1 (mm : Mem w0 No w (tkL bR bE bL bF bO cs er v)) (x : Int) : Cl Try.prog 80 #[.int .i64 x, .pointer (some ⟨bE, 0, none⟩)] w (fun r w' => r = .tuple #[] ∧ Mem w0 No w' (tkL bR bE bL bF bO cs (if er = 0 then x else er) v)) := by
  refine f_enter (args := [_, _]) Try.func80 rfl rfl ?_
  refine c_sreg rfl ?_
  refine s1 (r_ld rfl (mm.b 1 rfl) rfl) ?_
  refine s1 (r_eq rfl rfl) ?_
  refine wn ?_
  refine c_cond rfl (fun h => ?_) (fun h => (c_skip (body_n ?_)))
  · have hz : er = 0 := by simpa using h
    rw [if_pos hz]
    refine c_region rfl ?_
    refine s1 (r_mvi rfl) ?_
    refine ss (o_st mm 1 rfl rfl rfl rfl rfl fun w2 mm => ?_)
    refine wn (body_n ?_)
    exact ret0 rfl ⟨rfl, mm⟩
  have hz : ¬ er = 0 := by simpa using h
  rw [if_neg hz]
  exact ret0 rfl ⟨rfl, mm⟩

theorem c_tk2 (mm : Mem w0 No w (tkL bR bE bL bF bO cs er v)) (hs : Sl w0 v s) (hl : s.length ≤ 4611686018427387904) (low high : Int) : Cl Try.prog 81 #[.int .i64 low, .int .i64 high, .pointer (some ⟨bE, 0, none⟩), .pointer (some ⟨bL, 0, none⟩), .pointer (some ⟨bF, 0, none⟩)] w
    (fun r w' => ∃ v', r = .int .i64 (tOne low high s er).1 ∧ Mem w0 No w' (tkL bR bE bL bF bO cs (tOne low high s er).2.2 v') ∧ Sl w0 v' (tOne low high s er).2.1) := by
  obtain ⟨a, c, rfl, hc, H⟩ := hs
  refine f_enter (args := [_, _, _, _, _]) Try.func81 rfl rfl ?_
  refine c_sreg rfl ?_
  refine s1 (r_asi rfl) ?_
  refine wn ?_
  refine c_seq ?_
  refine c_sreg rfl ?_
  refine s1 (r_ld rfl (mm.b 1 rfl) rfl) ?_
  refine s1 (r_ne rfl rfl) ?_
  refine s1 (r_mvb rfl) ?_
  refine sF rfl rfl (fun h => r_ld rfl (mm.b 2 rfl) rfl) ?_
  refine sF rfl rfl (fun h => r_len (sel_t h :)) ?_
  refine sF rfl rfl (fun h => r_eq (sel_t h :) rfl) ?_
  refine s1 (r_or rfl rfl) ?_
  refine wn ?_
  refine c_cond rfl (fun h => ?_) (fun h => (c_skip (t_n ?_)))
  · have hq : er ≠ 0 ∨ s = [] := by
      simp at h
      rcases h with h | h
      · exact .inl h
      · exact .inr h
    have ht : tOne low high s er = (low, s, if er = 0 then 2 else er) := by
      unfold tOne
      rcases hq with hq | hq
      · rw [if_pos hq, if_neg hq]
      · by_cases he : er = 0
        · rw [if_neg (by simp [he]), if_pos he, hq]
        · rw [if_pos he, if_neg he]
    rw [ht]
    refine c_sreg rfl ?_
    refine s1 (r_ld rfl (mm.b 3 rfl) rfl) ?_
    refine so (o_f11 rfl rfl (c_tk1 mm 2) ?_)
    rintro _ w2 ⟨rfl, mm⟩
    refine wn ?_
    refine c_sreg rfl ?_
    refine s1 (r_mvi rfl) ?_
    refine s1 (r_asi rfl) ?_
    refine wn ?_
    exact c_ret (ret1 rfl rfl ⟨_, rfl, mm, a, c, rfl, hc, H⟩)
  have hq : er = 0 ∧ s ≠ [] := by
    simp at h
    exact h
  obtain ⟨rfl, hne⟩ := hq
  cases s with
  | nil => exact absurd rfl hne
  | cons x s =>
  have hx := x.toNat_lt
  have ht : tOne low high (x :: s) 0 = ((x.toNat : Int), s, if (x.toNat : Int) < low ∨ high < (x.toNat : Int) then 3 else 0) := rfl
  rw [ht]
  clear h
  refine c_sreg rfl ?_
  refine s1 (r_ld rfl (mm.b 2 rfl) rfl) ?_
  refine s1 (r_ix rfl rfl (by decide) (by simp) (H.some (j := 0) rfl)) ?_
  refine s1 (r_ldc rfl (mm.ro H) rfl) ?_
  refine s1 (r_cv rfl (wu8i x)) ?_
  refine s1 (r_asi rfl) ?_
  refine wn ?_
  refine c_sreg rfl ?_
  refine s1 (r_ld rfl (mm.b 2 rfl) rfl) ?_
  refine s1 (r_sll rfl rfl (by decide) (by simp; omega)) ?_
  refine ss (o_st mm 2 rfl rfl rfl rfl rfl fun w3 mm => ?_)
  refine wn ?_
  have hd := Sl.drop H hc 1 (by simp)
  refine c_seq ?_
  refine c_sreg rfl ?_
  refine s1 (r_mvi rfl) ?_
  refine s1 (r_mvi rfl) ?_
  refine s1 (r_lt rfl rfl) ?_
  refine s1 (r_mvb rfl) ?_
  refine sF rfl rfl (fun h => r_mvi rfl) ?_
  refine sF rfl rfl (fun h => r_mvi rfl) ?_
  refine sF rfl rfl (fun h => r_gt (sel_t h :) (sel_t h :)) ?_
  refine s1 (r_or rfl rfl) ?_
  refine wn ?_
  refine c_cond rfl (fun h => ?_) (fun h => (c_skip (t_n ?_)))
  · have hq : (x.toNat : Int) < low ∨ high < (x.toNat : Int) := by simp at h; exact h
    rw [if_pos hq]
    refine c_region rfl ?_
    refine s1 (r_ld rfl (mm.b 3 rfl) rfl) ?_
    refine so (o_f11 rfl rfl (c_tk1 mm 3) ?_)
    rintro _ w4 ⟨rfl, mm⟩
    refine wn (t_n ?_)
    refine c_sreg rfl ?_
    refine s1 (r_mvi rfl) ?_
    refine s1 (r_asi rfl) ?_
    refine wn ?_
    exact c_ret (ret1 rfl rfl ⟨_, rfl, mm, hd⟩)
  have hq : ¬ ((x.toNat : Int) < low ∨ high < (x.toNat : Int)) := by simp at h; omega
  rw [if_neg hq]
  refine c_sreg rfl ?_
  refine s1 (r_mvi rfl) ?_
  refine s1 (r_asi rfl) ?_
  refine wn ?_
  exact c_ret (ret1 rfl rfl ⟨_, rfl, mm, hd⟩)

theorem Sl.at {L : List It} (mm : Mem w0 No w L) (h : Sl w0 v s) : Sl w v s := by
  obtain ⟨a, c, rfl, hc, H⟩ := h
  exact ⟨a, c, rfl, hc, mm.ro H⟩
theorem c_tk3 (mm : Mem w0 No w (tkL bR bE bL bF bO cs er v)) (hs : Sl w0 v s) (hl : s.length ≤ 4611686018427387904) (low high : Int) (h0 : 0 ≤ low) (h1 : low ≤ 4611686018427387904) (h2 : 0 ≤ high) (h3 : high ≤ 4611686018427387904) : Cl Try.prog 82 #[.int .i64 low, .int .i64 high, .pointer (some ⟨bL, 0, none⟩), .pointer (some ⟨bE, 0, none⟩), .pointer (some ⟨bF, 0, none⟩)] w
    (fun r w' => ∃ v', r = .int .i64 (tNum low high s er).1 ∧ Mem w0 No w' (tkL bR bE bL bF bO cs (tNum low high s er).2.2 v') ∧ Sl w0 v' (tNum low high s er).2.1) := by
  have hs1 := hs
  obtain ⟨a, c, rfl, hac, H⟩ := hs
  have hve := vtake_err (b := s)
  refine f_enter (args := [_, _, _, _, _]) Try.func82 rfl rfl ?_
  refine c_sreg rfl ?_
  refine s1 (r_asi rfl) ?_
  refine wn ?_
  refine c_sreg rfl ?_
  refine s1 (r_ld rfl (mm.b 2 rfl) rfl) ?_
  refine so (o_c1 rfl (c_vtake s hl _ _ (Sl.at mm hs1)) ?_)
  rintro _ w2 ⟨rfl, hc⟩
  have mm := mm.frame hc
  refine s1 (r_mvu rfl) ?_
  refine s1 (r_exti rfl rfl) ?_
  refine s1 (r_exti rfl rfl) ?_
  refine s1 (r_exti rfl rfl) ?_
  refine s1 (r_asi rfl) ?_
  refine s1 (r_asi rfl) ?_
  refine s1 (r_asi rfl) ?_
  refine wn ?_
  generalize htk : vtake s = t at *
  obtain ⟨n, k, x⟩ := t
  dsimp only at *
  refine c_seq ?_
  refine c_sreg rfl ?_
  refine s1 (r_ld rfl (mm.b 1 rfl) rfl) ?_
  refine s1 (r_ne rfl rfl) ?_
  refine s1 (r_mvb rfl) ?_
  refine sF rfl rfl (fun h => r_mvi rfl) ?_
  refine sF rfl rfl (fun h => r_ne (sel_t h :) rfl) ?_
  refine s1 (r_or rfl rfl) ?_
  refine wn ?_
  refine c_cond rfl (fun h => ?_) (fun h => (c_skip (t_n ?_)))
  · have hq : er ≠ 0 ∨ x ≠ 0 := by simpa using h
    have ht : tNum low high s er = (low, s, if er = 0 then x else er) := by
      unfold tNum
      rw [htk, if_pos hq]
    rw [ht]
    refine c_sreg rfl ?_
    refine s1 (r_ld rfl (mm.b 3 rfl) rfl) ?_
    refine s1 (r_mvi rfl) ?_
    refine so (o_f11 rfl rfl (c_tk1 mm x) ?_)
    rintro _ w3 ⟨rfl, mm⟩
    refine wn ?_
    refine c_sreg rfl ?_
    refine s1 (r_mvi rfl) ?_
    refine s1 (r_asi rfl) ?_
    refine wn ?_
    exact c_ret (ret1 rfl rfl ⟨_, rfl, mm, a, c, rfl, hac, H⟩)
  have hq : er = 0 ∧ x = 0 := by simpa using h
  obtain ⟨rfl, rfl⟩ := hq
  have hk : 1 ≤ k ∧ k ≤ s.length := by
    rcases hve with hve | hve | hve
    · exact hve.2
    · cases hve
    · cases hve
  have ht : tNum low high s 0 = (IntKind.i64.wrap n, s.drop k, if (n : Int) < low ∨ high < (n : Int) then 3 else 0) := by
    unfold tNum
    rw [htk]
    exact if_neg (by simp)
  rw [ht]
  clear h
  have hd := Sl.drop H hac k hk.2
  refine c_sreg rfl ?_
  refine s1 (r_ld rfl (mm.b 2 rfl) rfl) ?_
  refine s1 (r_mvi rfl) ?_
  refine s1 (r_sll rfl rfl (by omega) (by omega)) ?_
  refine ss (o_st mm 2 rfl rfl rfl rfl rfl fun w4 mm => ?_)
  refine wn ?_
  refine c_seq ?_
  refine c_sreg rfl ?_
  refine s1 (r_mvi rfl) ?_
  refine s1 (r_mvi rfl) ?_
  refine s1 (r_cv rfl (wu64 (by omega) (by omega))) ?_
  refine s1 (r_lt rfl rfl) ?_
  refine s1 (r_mvb rfl) ?_
  refine sF rfl rfl (fun h => r_mvi rfl) ?_
  refine sF rfl rfl (fun h => r_mvi rfl) ?_
  refine sF rfl rfl (fun h => r_cv (sel_t h :) (wu64 (by omega) (by omega))) ?_
  refine sF rfl rfl (fun h => r_gt (sel_t h :) (sel_t h :)) ?_
  refine s1 (r_or rfl rfl) ?_
  refine wn ?_
  refine c_cond rfl (fun h => ?_) (fun h => (c_skip (t_n ?_)))
  · have hq : (n : Int) < low ∨ high < (n : Int) := by simpa using h
    rw [if_pos hq]
    refine c_region rfl ?_
    refine s1 (r_ld rfl (mm.b 3 rfl) rfl) ?_
    refine so (o_f11 rfl rfl (c_tk1 mm 3) ?_)
    rintro _ w5 ⟨rfl, mm⟩
    refine wn (t_n ?_)
    refine c_sreg rfl ?_
    refine s1 (r_mvi rfl) ?_
    refine s1 (r_cv rfl rfl) ?_
    refine s1 (r_asi rfl) ?_
    refine wn ?_
    exact c_ret (ret1 rfl rfl ⟨_, rfl, mm, hd⟩)
  have hq : ¬ ((n : Int) < low ∨ high < (n : Int)) := by simpa using h
  rw [if_neg hq]
  refine c_sreg rfl ?_
  refine s1 (r_mvi rfl) ?_
  refine s1 (r_cv rfl rfl) ?_
  refine s1 (r_asi rfl) ?_
  refine wn ?_
  exact c_ret (ret1 rfl rfl ⟨_, rfl, mm, hd⟩)

theorem K.Cells.takeb {a : Option Addr} {s : List UInt8} (h : Cells w a (u8s s)) (n : Nat) : Cells w a (u8s (s.take n)) := by
  have := h.take n
  unfold u8s at this ⊢
  rw [List.map_take]
  exact this
theorem c_tk4 (mm : Mem w0 No w (tkL bR bE bL bF bO cs er v)) (hs : Sl w0 v s) (hl : s.length ≤ 4611686018427387904) (most : Int) : Cl Try.prog 83 #[.int .i64 most, .pointer (some ⟨bO, 0, none⟩), .pointer (some ⟨bE, 0, none⟩), .pointer (some ⟨bL, 0, none⟩), .pointer (some ⟨bF, 0, none⟩)] w
    (fun r w' => ∃ v', r = str (tWords most s er).1 ∧ Mem w0 No w' (tkL bR bE bL bF bO cs (tWords most s er).2.2 v') ∧ Sl w0 v' (tWords most s er).2.1) := by
  refine f_enter (args := [_, _, _, _, _]) Try.func83 rfl rfl ?_
  have hok := @tOne_ok 1 most s er
  have hle := @tOne_le 1 most s er
  refine c_sreg rfl ?_
  refine s1 (r_ast rfl) ?_
  refine wn ?_
  refine c_sreg rfl ?_
  refine s1 (r_ld rfl (mm.b 4 rfl) rfl) ?_
  refine s1 (r_mvi rfl) ?_
  refine so (o_f23 rfl rfl rfl (c_tk2 mm hs hl 1 most) ?_)
  rintro _ w2 ⟨v2, rfl, mm, hs2⟩
  refine s1 (r_asi rfl) ?_
  refine wn ?_
  generalize htk : tOne 1 most s er = t at *
  obtain ⟨n, s', e'⟩ := t
  dsimp only at *
  obtain ⟨a, c, rfl, hac, H⟩ := hs2
  refine c_seq ?_
  refine c_sreg rfl ?_
  refine s1 (r_ld rfl (mm.b 1 rfl) rfl) ?_
  refine s1 (r_ne rfl rfl) ?_
  refine s1 (r_mvb rfl) ?_
  refine sF rfl rfl (fun h => r_ld rfl (mm.b 2 rfl) rfl) ?_
  refine sF rfl rfl (fun h => r_len (sel_t h :)) ?_
  refine sF rfl rfl (fun h => r_mvi rfl) ?_
  refine sF rfl rfl (fun h => r_lt (sel_t h :) (sel_t h :)) ?_
  refine s1 (r_or rfl rfl) ?_
  refine wn ?_
  refine c_cond rfl (fun h => ?_) (fun h => (c_skip (t_n ?_)))
  · have hq : e' ≠ 0 ∨ (s'.length : Int) < n := by simpa using h
    have ht : tWords most s er = ([], s', if e' = 0 then 2 else e') := by
      unfold tWords
      rw [htk, if_pos hq]
    rw [ht]
    refine c_sreg rfl ?_
    refine s1 (r_ld rfl (mm.b 3 rfl) rfl) ?_
    refine so (o_f11 rfl rfl (c_tk1 mm 2) ?_)
    rintro _ w3 ⟨rfl, mm⟩
    refine wn ?_
    refine c_sreg rfl ?_
    refine s1 (r_ast rfl) ?_
    refine wn ?_
    exact c_ret (ret1 rfl rfl ⟨_, rfl, mm, a, c, rfl, hac, H⟩)
  have hq : e' = 0 ∧ ¬ (s'.length : Int) < n := by simpa using h
  obtain ⟨rfl, hq⟩ := hq
  have hn := hok rfl
  have ht : tWords most s er = (s'.take n.toNat, s'.drop n.toNat, 0) := by
    unfold tWords
    rw [htk]
    exact if_neg (by simp; omega)
  rw [ht]
  clear h
  have hd := Sl.drop H hac n.toNat (by omega)
  refine c_sreg rfl ?_
  refine s1 (r_ld rfl (mm.b 2 rfl) rfl) ?_
  refine s1 (r_mvi rfl) ?_
  refine s1 (r_slh rfl rfl (by omega) (by omega)) ?_
  refine s1 (r_b2s rfl (mm.ro (H.takeb n.toNat)) (by rw [List.length_take]; omega)) ?_
  refine s1 (r_ast rfl) ?_
  refine wn ?_
  refine c_sreg rfl ?_
  refine s1 (r_ld rfl (mm.b 2 rfl) rfl) ?_
  refine s1 (r_mvi rfl) ?_
  refine s1 (r_sll rfl rfl (by omega) (by omega)) ?_
  refine ss (o_st mm 2 rfl rfl rfl rfl rfl fun w4 mm => ?_)
  refine wn ?_
  refine c_sreg rfl ?_
  refine s1 (r_mvt rfl) ?_
  refine s1 (r_ast rfl) ?_
  refine wn ?_
  exact c_ret (ret1 rfl rfl ⟨_, rfl, mm, hd⟩)
end
end Go.Proofs.Ytbcpabfemejlgaa
