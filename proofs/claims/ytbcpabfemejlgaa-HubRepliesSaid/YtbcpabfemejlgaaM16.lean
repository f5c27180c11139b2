/- record.body, of the bytes of a record that may be: the walk. -/
import Derived.Test.YtbcpabfemejlgaaM9
import Derived.Test.YtbcpabfemejlgaaM7
import Derived.Test.YtbcpabfemejlgaaM15
import Derived.Test.YtbcpabfemejlgaaM5
import Derived.Test.YtbcpabfemejlgaaM6
import Derived.Test.YtbcpabfemejlgaaM3
import Derived.Test.YtbcpabfemejlgaaM10
namespace Go.Proofs.Ytbcpabfemejlgaa
open K
set_option maxRecDepth 100000
set_option maxHeartbeats 4000000

theorem vput_le3 (n : Nat) (h : n ≤ 1048577) : (vput n).length ≤ 3 := vput_len 2 n (by omega)
theorem wi64n (n : Nat) (h : n ≤ 1048577) : IntKind.i64.wrap (min (n : Int) 1048577) = ((n : Nat) : Int) := by
  have : min (n : Int) 1048577 = (n : Nat) := by omega
  rw [this]; exact wi (by omega) (by omega)
theorem c_vtake0 (n : Nat) (rest : List UInt8) (hn : n ≤ 1048576 * 128) (hl : (vput n ++ rest).length ≤ 4611686018427387904) (v : Value) (w : World) (hs : Sl w v (vput n ++ rest)) : Cl Try.prog 30 #[v] w (fun r w' => r = .tuple #[.int .u64 (n : Nat), .int .i64 ((vput n).length : Nat), .int .i64 0] ∧ Chg No w w') := by
  have h := c_vtake (vput n ++ rest) hl v w hs
  rw [vtake_put n (Nat.le_trans (vput_len 3 n (by omega)) (by decide)) rest] at h
  exact h
/-- The closure that takes a number, where one stands. -/
theorem c_num18 {w0 w : World} {L : List It} (mm0 : Mem w0 No w L) (k k' : Nat) {b1 b3 : Nat} {v : Value} (n : Nat) (rest : List UInt8) (hn : n ≤ 1048576) (hs : Sl w0 v (vput n ++ rest)) (hl : (vput n ++ rest).length ≤ 4611686018427387904)
    (hk : nth L k = some (bk b1 [v] 45)) (hk' : nth L k' = some (bk b3 [.bool true] 4)) (hkk : k ≠ k') :
    Cl Try.prog 86 #[.pointer (some ⟨b1, 0, none⟩), .pointer (some ⟨b3, 0, none⟩)] w (fun r w' => ∃ v', r = .int .i64 (n : Nat) ∧ Mem w0 No w' (setN (setN L k (bk b1 [v'] 45)) k' (bk b3 [.bool true] 4)) ∧ Sl w0 v' rest) := by
  have h3 := vput_le3 n (by omega)
  obtain ⟨a, c, rfl, hcc, H⟩ := hs
  have mm := mm0.pick2 k k' hk hk' hkk
  refine f_enter (args := [_, _]) Try.func86 rfl rfl ?_
  refine c_sreg rfl ?_
  refine s1 (r_asi rfl) ?_
  refine wn ?_
  refine c_sreg rfl ?_
  refine s1 (r_ld rfl (mm.b 0 rfl) rfl) ?_
  refine so (o_c1 rfl (c_vtake0 n rest (by omega) hl _ _ ⟨a, c, rfl, hcc, mm0.ro H⟩) ?_)
  rintro _ w2 ⟨rfl, hc⟩
  have mm := mm.frame hc
  refine s1 (r_mvu rfl) ?_
  refine s1 (r_exti rfl rfl) ?_
  refine s1 (r_exti rfl rfl) ?_
  refine s1 (r_exti rfl rfl) ?_
  refine s1 (r_asi rfl) ?_
  refine s1 (r_asi rfl) ?_
  refine s1 (r_asi rfl) ?_
  refine wn ?_
  refine c_sdraw2 mixed [(1, some 0), (3, some 1), (4, some 0), (5, some 0), (6, some 0), (7, some 0), (0, some 2), (2, some 1), (8, none), (9, none)] [1, 0, 1, 0, 0, 0, 0, 0, 0, 0] (Sof mm) (Sof (mm.pk [1] (by decide))) (fun _ h => h.pk [1] (by decide)) (by kernel_rfl) rfl rfl (by kernel_rfl) (fun w3 hc => ?_)
  have mm := mm.frame hc
  refine q01 rfl (fun w => r_mvi rfl) ?_
  refine qB1 rfl (fun w m => r_ld rfl (m.b 0 rfl) rfl) (mm.pk [1] (by decide)) ?_
  refine q01 rfl (fun w => r_mvb rfl) ?_
  refine q0T rfl rfl rfl (fun h w => r_mvi rfl) ?_
  refine q0T rfl rfl rfl (fun h w => r_eq (sel_t h :) rfl) ?_
  refine q01 rfl (fun w => r_and rfl rfl) ?_
  refine qA1 rfl (fun w m => r_ld rfl (m.b 0 rfl) rfl) mm ?_
  refine qB1 rfl (fun w m => r_sll rfl rfl (by omega) (by rw [List.length_append] at *; omega)) (mm.pk [1] (by decide)) ?_
  refine qs rfl (o_st mm 0 rfl rfl rfl rfl rfl fun w4 mm => ⟨trivial, ?_⟩)
  refine qs rfl (o_st mm 1 rfl rfl rfl rfl rfl fun w5 mm => ⟨trivial, ?_⟩)
  refine qn ?_
  refine c_sreg rfl ?_
  refine s1 (r_mvi rfl) ?_
  refine s1 (r_min2 rfl rfl) ?_
  refine s1 (r_cv rfl (wi64n n (by omega))) ?_
  refine s1 (r_asi rfl) ?_
  refine wn ?_
  have h9 := mm0.lift2 k k' hk hk' hkk mm
  refine c_ret (ret1 rfl rfl ⟨_, rfl, h9, ?_⟩)
  have hd := Sl.drop H hcc (vput n).length (by rw [List.length_append]; omega)
  rw [List.drop_left] at hd
  exact hd
theorem byte_int (n : Int) (h0 : 0 ≤ n) (h1 : n ≤ 255) : IntKind.i64.wrap (((UInt8.ofNat n.toNat).toNat : Nat) : Int) = n := by
  have h : (UInt8.ofNat n.toNat).toNat = n.toNat := by rw [UInt8.toNat_ofNat']; omega
  rw [h, wi (by omega) (by omega)]; omega
theorem evsB_cons (x : Ev) (l : List Ev) : evsB (x :: l) = putE x ++ evsB l := List.flatMap_cons
theorem evsB_drop (l : List Ev) (i : Nat) (h : i < l.length) : evsB (l.drop i) = putE l[i] ++ evsB (l.drop (i + 1)) := by
  rw [List.drop_eq_getElem_cons h, evsB_cons]
theorem takeE_len (x : Ev) (hk : EvOk x) (rest : List UInt8) : takeE (putE x ++ rest) = (x, ((putE x).length : Int), 0) := takeE_put x hk rest
theorem c_eTake0 (x : Ev) (hx : evMay x = 0) (rest : List UInt8) (hl : (putE x ++ rest).length ≤ 4611686018427387904) (v : Value) (w : World) (hs : Sl w v (putE x ++ rest)) : Cl Try.prog 58 #[v] w (fun r w' => r = .tuple #[.agg (evC x).toArray, .int .i64 ((putE x).length : Nat), .int .i64 0] ∧ Chg No w w') := by
  have h := c_eTake (putE x ++ rest) hl v w hs
  rw [takeE_put x (evMay_ok hx) rest] at h
  exact h
/-- The clock's bytes from place i on. -/
def clkT (c : Clk) (i : Nat) : List UInt8 := ((List.range 5).drop i).flatMap fun i : Nat => vput (c.get i).toNat
theorem clkT_0 (c : Clk) : clkT c 0 = clkB c 5 := rfl
theorem clkT_5 (c : Clk) : clkT c 5 = [] := rfl
theorem clkT_succ (c : Clk) (i : Nat) (h : i < 5) : clkT c i = vput (c.get i).toNat ++ clkT c (i + 1) := by
  match i, h with
  | 0, _ => rfl | 1, _ => rfl | 2, _ => rfl | 3, _ => rfl | 4, _ => rfl
theorem clkT_len (c : Clk) (hc : ∀ i, i < 5 → 0 ≤ c.get i ∧ c.get i ≤ 1048576) (i : Nat) : (clkT c i).length ≤ 50 := by
  have h0 := hc 0 (by decide); have h1 := hc 1 (by decide); have h2 := hc 2 (by decide); have h3 := hc 3 (by decide); have h4 := hc 4 (by decide)
  have l0 := vput_len10 (c.get 0).toNat (by omega); have l1 := vput_len10 (c.get 1).toNat (by omega); have l2 := vput_len10 (c.get 2).toNat (by omega); have l3 := vput_len10 (c.get 3).toNat (by omega); have l4 := vput_len10 (c.get 4).toNat (by omega)
  have e5 : clkT c 5 = [] := rfl
  rcases Nat.lt_or_ge i 5 with hi | hi
  · have q4 := clkT_succ c 4 (by decide); have q3 := clkT_succ c 3 (by decide); have q2 := clkT_succ c 2 (by decide); have q1 := clkT_succ c 1 (by decide); have q0 := clkT_succ c 0 (by decide)
    have r4 := congrArg List.length q4; have r3 := congrArg List.length q3; have r2 := congrArg List.length q2; have r1 := congrArg List.length q1; have r0 := congrArg List.length q0
    have r5 := congrArg List.length e5
    rw [List.length_append] at r4 r3 r2 r1 r0
    simp only [Nat.reduceAdd, List.length_nil] at r4 r3 r2 r1 r0 r5
    match i, hi with
    | 0, _ => omega
    | 1, _ => omega
    | 2, _ => omega
    | 3, _ => omega
    | 4, _ => omega
  · have : clkT c i = [] := by unfold clkT; rw [List.drop_eq_nil_of_le (by simp; omega)]; rfl
    rw [this]; simp
theorem K.Mem.cast2 {w0 w : World} {F0 : Nat → Prop} {I J M : It} {b : Nat} {cs cs' : List Value} {T : TypeId} (h : Mem w0 F0 w [I, bk b cs T, J, M]) (hc : cs = cs') : Mem w0 F0 w [I, bk b cs' T, J, M] := by subst hc; exact h
theorem K.Mem.cast5 {w0 w : World} {F0 : Nat → Prop} {I J M : It} {b : Nat} {cs cs' ds ds' : List Value} {T T' : TypeId} {sz n n' c : Nat} {a : Option Addr} (h : Mem w0 F0 w [I, bk b cs T, J, M, own T' sz a n c ds]) (hc : cs = cs') (hn : n = n') (hd : ds = ds') : Mem w0 F0 w [I, bk b cs' T, J, M, own T' sz a n' c ds'] := by subst hc; subst hn; subst hd; exact h
theorem c_rBody (x : Rec) (ok : RecOk x) (v : Value) (w : World) (hs : Sl w v (bodyR x)) : Cl Try.prog 59 #[v] w
    (fun r w' => ∃ a c, r = .tuple #[.agg (recV x a c).toArray, .bool true] ∧ Chg No w w' ∧ NewR w w' a c x.es) := by
  have hkin := parts_in ok.is
  have hw : ClkW x.c := clkW_of fun i hi => by have := ok.c i hi; exact ⟨by omega, by omega⟩
  have hmost := ok.most
  have hl44 := evsB_len ok.es
  have hu10 := vput_len10 x.upto.toNat (by have := ok.u1; omega)
  have hn10 := vput_len10 x.es.length (by omega)
  have hcl := clkB_len x.c ok.c 5 (Nat.le_refl _)
  generalize hp3 : (if (parts x.kind).2.2.1 then vput x.es.length ++ evsB x.es else []) = q3
  generalize hp2 : (if (parts x.kind).2.1 then clkB x.c 5 else []) = q2
  generalize hp1 : (if (parts x.kind).1 then vput x.upto.toNat else []) = q1
  have hl3 : q3.length ≤ 190000 := by
    rw [← hp3]
    split
    · rw [List.length_append]; omega
    · simp
  have hl2 : q2.length ≤ 50 := by rw [← hp2]; split <;> first | omega | (simp; done)
  have hl1 : q1.length ≤ 10 := by rw [← hp1]; split <;> first | omega | (simp; done)
  have hb : bodyR x = UInt8.ofNat x.kind.toNat :: UInt8.ofNat x.r.toNat :: (q1 ++ (q2 ++ q3)) := by
    unfold bodyR
    rw [hp1, hp2, hp3]
    simp
  rw [hb] at hs
  generalize hB : UInt8.ofNat x.kind.toNat :: UInt8.ofNat x.r.toNat :: (q1 ++ (q2 ++ q3)) = B at *
  have hBl : B.length = 2 + (q1.length + (q2.length + q3.length)) := by rw [← hB]; simp; omega
  obtain ⟨a, c, rfl, hcc, H⟩ := hs
  refine f_enter (args := [_]) Try.func59 rfl rfl ?_
  have mm := Mem.nil No w
  refine c_sreg rfl ?_
  refine so (o_bx mm rfl rfl fun b2 w2 mm => ?_)
  refine so (o_al mm fun b3 w3 mm => ?_)
  refine so (o_al mm fun b4 w4 mm => ?_)
  refine wn ?_
  refine c_scope (l := 0) rfl (fun k e w' => ∃ (i : Nat) (ao : Option Addr) (co : Nat) (v : Value) (b7 : Nat), k + i = x.es.length ∧ e 1 = .pointer (some ⟨b2, 0, none⟩) ∧ e 2 = .pointer (some ⟨b3, 0, none⟩) ∧ e 3 = .pointer (some ⟨b4, 0, none⟩) ∧ e 4 = .pointer (some ⟨b7, 0, none⟩) ∧ e 6 = .func (.func 86) #[] #[.pointer (some ⟨b2, 0, none⟩), .pointer (some ⟨b4, 0, none⟩)] ∧ e 8 = .int .i64 (k : Nat) ∧ Mem w No w' [bk b2 [v] 45, bk b3 (recV { x with es := x.es.take i } ao co) 84, bk b4 [.bool true] 4, bk b7 [.bool (parts x.kind).1, .bool (parts x.kind).2.1, .bool (parts x.kind).2.2.1] 142, own 67 12 ao (x.es.take i).length co (evsC (x.es.take i))] ∧ Sl w v (evsB (x.es.drop i))) ?_ ?_
  rotate_left
  · intro hX
    have hB0 : nth (u8s B) 0 = some (u8 (UInt8.ofNat x.kind.toNat)) := by rw [← hB]; rfl
    have hB1 : nth (u8s B) 1 = some (u8 (UInt8.ofNat x.r.toNat)) := by rw [← hB]; rfl
    have hB2 : B.drop 2 = q1 ++ (q2 ++ q3) := by rw [← hB]; rfl
    refine c_seq ?_
    refine c_sreg rfl ?_
    refine s1 (r_ld rfl (mm.b 0 rfl) rfl) ?_
    refine s1 (r_len rfl) ?_
    refine s1 (r_lt rfl rfl) ?_
    refine wn ?_
    refine c_cond rfl (fun h => ?_) (fun h => (c_skip (t_n ?_)))
    · exfalso; simp at h; omega
    clear h
    refine c_sdraw2 mixed [(0, some 2), (1, some 0), (2, some 2), (3, some 0), (8, some 0), (4, some 2), (5, some 2), (6, some 2), (7, some 2), (9, none), (10, some 0), (11, none)] [0, 0, 0, 0, 2, 2, 2, 2, 0, 2, 0, 0] (Sof (mm.pk [0] (by decide))) (Sof (mm.pk [0] (by decide))) (fun _ h => h) (by kernel_rfl) rfl rfl (by kernel_rfl) (fun w5 hc => ?_)
    have mm := mm.frame hc
    refine qA1 rfl (fun w m => r_ld rfl (m.b 0 rfl) rfl) (mm.pk [0] (by decide)) ?_
    refine q01 rfl (fun w => r_ix rfl rfl (by omega) (by omega) (H.some hB0)) ?_
    refine qA1 rfl (fun w m => r_ldc rfl (m.ro H) hB0) (mm.pk [0] (by decide)) ?_
    refine q01 rfl (fun w => r_cv rfl (byte_int x.kind (by omega) (by omega))) ?_
    refine q01 rfl (fun w => r_fa rfl) ?_
    refine qA1 rfl (fun w m => r_ld rfl (m.b 0 rfl) rfl) (mm.pk [0] (by decide)) ?_
    refine qA1 rfl (fun w m => r_ix rfl rfl (by omega) (by omega) (H.some hB1)) (mm.pk [0] (by decide)) ?_
    refine qA1 rfl (fun w m => r_ldc rfl (m.ro H) hB1) (mm.pk [0] (by decide)) ?_
    refine qA1 rfl (fun w m => r_cv rfl (byte_int x.r ok.r0 (by have := ok.r5; omega))) (mm.pk [0] (by decide)) ?_
    refine qs rfl (o_st mm 1 rfl rfl rfl rfl rfl fun w6 mm => ⟨(mm.pk [0] (by decide)), ?_⟩)
    refine q01 rfl (fun w => r_fa rfl) ?_
    refine qs rfl (o_st mm 1 rfl rfl rfl rfl rfl fun w7 mm => ⟨trivial, ?_⟩)
    refine qn ?_
    refine c_sreg rfl ?_
    refine s1 (r_ld rfl (mm.b 0 rfl) rfl) ?_
    refine s1 (r_sll rfl rfl (by omega) (by omega)) ?_
    refine ss (o_st mm 0 rfl rfl rfl rfl rfl fun w8 mm => ?_)
    refine wn ?_
    have hs2 := Sl.drop H hcc 2 (by omega)
    rw [hB2] at hs2
    have mm : Mem w No _ [bk b2 [Value.slice (slA a c 2 1) (B.length - 2) (c - 2)] 45, bk b3 (recV ⟨x.kind, x.r, 0, clk0, []⟩ none 0) 84, bk b4 [.bool false] 4] := mm
    generalize Value.slice (slA a c 2 1) (B.length - 2) (c - 2) = v1 at *
    refine c_sreg rfl ?_
    refine s1 (r_fa rfl) ?_
    refine s1 (r_ld rfl (mm.b 1 rfl) rfl) ?_
    refine so (o_c1 rfl (c_parts x.kind _) ?_)
    rintro _ w9 ⟨rfl, hc⟩
    have mm := mm.frame hc
    refine s1 (r_mvu rfl) ?_
    refine s1 (r_extg rfl rfl) ?_
    refine s1 (r_extb rfl rfl) ?_
    refine so (o_al mm fun b10 w10 mm => ?_)
    refine ss (o_sta mm 3 rfl rfl rfl rfl rfl (Nat.le_of_ble_eq_true rfl) fun w11 mm => ?_)
    refine s1 (r_asb rfl) ?_
    refine wn ?_
    have hpis := ok.is
    refine c_seq ?_
    refine c_sreg rfl ?_
    refine s1 (r_mvb rfl) ?_
    refine s1 (r_not rfl) ?_
    refine wn ?_
    refine c_cond rfl (fun h => ?_) (fun h => (c_skip (t_n ?_)))
    · exfalso; rw [hpis] at h; cases h
    clear h
    refine c_sreg rfl ?_
    refine ss (o_st mm 2 rfl rfl rfl rfl rfl fun w12 mm => ?_)
    refine wn ?_
    refine c_sreg rfl ?_
    refine s1 (r_fn2 rfl rfl) ?_
    refine s1 (r_asf rfl) ?_
    refine wn ?_
    have mm : Mem w No _ [bk b2 [v1] 45, bk b3 (recV ⟨x.kind, x.r, 0, clk0, []⟩ none 0) 84, bk b4 [.bool true] 4, bk b10 [.bool (parts x.kind).1, .bool (parts x.kind).2.1, .bool (parts x.kind).2.2.1] 142] := mm
    refine c_seq ?_
    refine c_sreg rfl ?_
    refine s1 (r_fa rfl) ?_
    refine s1 (r_ld rfl (mm.b 3 rfl) rfl) ?_
    refine wn ?_
    refine c_mid0 (fun e w' => ∃ v, e 1 = .pointer (some ⟨b2, 0, none⟩) ∧ e 2 = .pointer (some ⟨b3, 0, none⟩) ∧ e 3 = .pointer (some ⟨b4, 0, none⟩) ∧ e 4 = .pointer (some ⟨b10, 0, none⟩) ∧ e 6 = .func (.func 86) #[] #[.pointer (some ⟨b2, 0, none⟩), .pointer (some ⟨b4, 0, none⟩)] ∧ Mem w No w' [bk b2 [v] 45, bk b3 (recV ⟨x.kind, x.r, x.upto, clk0, []⟩ none 0) 84, bk b4 [.bool true] 4, bk b10 [.bool (parts x.kind).1, .bool (parts x.kind).2.1, .bool (parts x.kind).2.2.1] 142] ∧ Sl w v (q2 ++ q3)) ?_ ?_
    · refine c_cond rfl (fun h => ?_) (fun h => (c_skip (t_n ?_)))
      · have hpu : (parts x.kind).1 = true := h
        rw [hpu, if_pos rfl] at hp1
        have hsx : Sl w v1 (vput x.upto.toNat ++ (q2 ++ q3)) := by rw [hp1]; exact hs2
        refine c_region rfl ?_
        refine s1 (r_mvf rfl) ?_
        refine so (o_f02 rfl (c_num18 mm 0 2 x.upto.toNat (q2 ++ q3) (by have := ok.u1; omega) hsx (by rw [List.length_append, List.length_append]; omega) rfl rfl (by decide)) ?_)
        rintro _ w13 ⟨v13, rfl, mm, hs3⟩
        refine s1 (r_fa rfl) ?_
        refine ss (o_st mm 1 rfl rfl rfl rfl rfl fun w14 mm => ?_)
        refine wn (t_n ?_)
        have hu : ((x.upto.toNat : Nat) : Int) = x.upto := by have := ok.u0; omega
        refine ⟨_, rfl, rfl, rfl, rfl, rfl, ?_, hs3⟩
        rw [hu] at mm
        exact mm.pk [0, 1, 2, 3] (by decide)
      · have hpu : (parts x.kind).1 = false := h
        have hu : x.upto = 0 := ok.pu.resolve_left (by rw [hpu]; decide)
        rw [hpu, if_neg (by decide)] at hp1
        subst hp1
        rw [hu]
        exact ⟨_, rfl, rfl, rfl, rfl, rfl, mm, hs2⟩
    clear mm hs2
    rintro e w1 ⟨v1, h1, h2, h3, h4, h6, mm, hs2⟩
    refine c_seq ?_
    refine c_sreg rfl ?_
    refine s1 (r_fa h4) ?_
    refine s1 (r_ld rfl (mm.b 3 rfl) rfl) ?_
    refine wn ?_
    refine c_mid0 (fun e w' => ∃ v, e 1 = .pointer (some ⟨b2, 0, none⟩) ∧ e 2 = .pointer (some ⟨b3, 0, none⟩) ∧ e 3 = .pointer (some ⟨b4, 0, none⟩) ∧ e 4 = .pointer (some ⟨b10, 0, none⟩) ∧ e 6 = .func (.func 86) #[] #[.pointer (some ⟨b2, 0, none⟩), .pointer (some ⟨b4, 0, none⟩)] ∧ Mem w No w' [bk b2 [v] 45, bk b3 (recV ⟨x.kind, x.r, x.upto, x.c, []⟩ none 0) 84, bk b4 [.bool true] 4, bk b10 [.bool (parts x.kind).1, .bool (parts x.kind).2.1, .bool (parts x.kind).2.2.1] 142] ∧ Sl w v q3) ?_ ?_
    · refine c_cond rfl (fun h => ?_) (fun h => (c_skip (t_n ?_)))
      · have hpc : (parts x.kind).2.1 = true := h
        rw [hpc, if_pos rfl] at hp2
        clear h
        refine c_sreg rfl ?_
        refine s1 (r_mvi rfl) ?_
        refine wn ?_
        refine c_block ?_
        refine c_loop (fun k e w' => ∃ (i : Nat) (cc : Clk) (v : Value), k + i = 5 ∧ e 1 = .pointer (some ⟨b2, 0, none⟩) ∧ e 2 = .pointer (some ⟨b3, 0, none⟩) ∧ e 3 = .pointer (some ⟨b4, 0, none⟩) ∧ e 4 = .pointer (some ⟨b10, 0, none⟩) ∧ e 6 = .func (.func 86) #[] #[.pointer (some ⟨b2, 0, none⟩), .pointer (some ⟨b4, 0, none⟩)] ∧ e 45 = .int .i64 (i : Nat) ∧ Mem w No w' [bk b2 [v] 45, bk b3 (recV ⟨x.kind, x.r, x.upto, cc, []⟩ none 0) 84, bk b4 [.bool true] 4, bk b10 [.bool (parts x.kind).1, .bool (parts x.kind).2.1, .bool (parts x.kind).2.2.1] 142] ∧ Sl w v (clkT x.c i ++ q3) ∧ ∀ j, j < i → j < 5 → cc.get j = x.c.get j) 5 ?_ ?_
        · exact ⟨0, clk0, v1, rfl, h1, h2, h3, h4, h6, rfl, mm, by rw [clkT_0, hp2]; exact hs2, fun j hj => absurd hj (by omega)⟩
        clear mm hs2 h1 h2 h3 h4 h6
        rintro k e w9 ⟨i, cc, v1, hki, h1, h2, h3, h4, h6, h45, mm, hs2, hcc'⟩
        refine c_sreg rfl ?_
        refine s1 (r_lt h45 rfl) ?_
        refine wn ?_
        refine c_seq ?_
        refine c_cond rfl (fun h => (c_skip (t_n ?_))) (fun h => (c_exit (t_x (t_x (b_x (t_n ?_))))))
        · have hi : i < 5 := by simp at h; omega
          clear h
          have hci := ok.c i hi
          have hct := clkT_len x.c ok.c i
          have hct1 := clkT_len x.c ok.c (i + 1)
          rw [clkT_succ x.c i hi, List.append_assoc] at hs2
          refine c_seq ?_
          refine c_block ?_
          refine c_sreg rfl ?_
          refine s1 (r_mvi h45) ?_
          refine s1 (r_asi rfl) ?_
          refine wn ?_
          refine c_region rfl ?_
          refine s1 (r_mvi rfl) ?_
          refine s1 (r_mvf h6) ?_
          refine so (o_f02 rfl (c_num18 mm 0 2 (x.c.get i).toNat (clkT x.c (i + 1) ++ q3) (by omega) hs2 (by have := vput_len10 (x.c.get i).toNat (by omega); rw [List.length_append, List.length_append]; omega) rfl rfl (by decide)) ?_)
          rintro _ w15 ⟨v15, rfl, mm, hs3⟩
          refine s1 (r_fa h2) ?_
          refine s1 (r_ixa rfl rfl (by omega) (by omega)) ?_
          refine ss (o_st mm 1 rfl rfl rfl rfl (blt_rvi _ _ _ i hi) fun w16 mm => ?_)
          refine wn (b_n (t_n ?_))
          have mm := (mm.pk [0, 1, 2, 3] (by decide)).cast2 (setN_rvi _ _ _ i hi _)
          refine c_region rfl ?_
          refine s1 (r_add h45 rfl (wi (by omega) (by omega))) ?_
          refine s1 (r_mvi rfl) ?_
          refine wn (t_n ?_)
          refine ⟨k - 1, by omega, i + 1, _, _, by omega, h1, h2, h3, h4, h6, rfl, mm, hs3, ?_⟩
          intro j hj hj5
          show (cc.set i _).get j = _
          rw [Clk.get_set _ _ _ hi hj5]
          by_cases hij : i = j
          · rw [if_pos hij, ← hij]; omega
          · rw [if_neg hij]; exact hcc' j (by omega) hj5
        · have hi : i = 5 := by simp at h; omega
          subst hi
          have hce : cc = x.c := Clk.ext' fun j hj => hcc' j hj hj
          subst hce
          rw [clkT_5] at hs2
          exact ⟨_, h1, h2, h3, h4, h6, mm, hs2⟩
      · have hpc : (parts x.kind).2.1 = false := h
        have hc0 : x.c = clk0 := ok.pc.resolve_left (by rw [hpc]; decide)
        rw [hpc, if_neg (by decide)] at hp2
        subst hp2
        rw [hc0]
        exact ⟨_, h1, h2, h3, h4, h6, mm, hs2⟩
    clear mm hs2 h1 h2 h3 h4 h6
    rintro e w1 ⟨v1, h1, h2, h3, h4, h6, mm, hs2⟩
    refine c_sreg rfl ?_
    refine s1 (r_asi rfl) ?_
    refine wn ?_
    refine c_seq ?_
    refine c_sreg rfl ?_
    refine s1 (r_fa h4) ?_
    refine s1 (r_ld rfl (mm.b 3 rfl) rfl) ?_
    refine wn ?_
    refine c_mid0 (fun e w' => ∃ v, e 1 = .pointer (some ⟨b2, 0, none⟩) ∧ e 2 = .pointer (some ⟨b3, 0, none⟩) ∧ e 3 = .pointer (some ⟨b4, 0, none⟩) ∧ e 4 = .pointer (some ⟨b10, 0, none⟩) ∧ e 6 = .func (.func 86) #[] #[.pointer (some ⟨b2, 0, none⟩), .pointer (some ⟨b4, 0, none⟩)] ∧ e 8 = .int .i64 (x.es.length : Nat) ∧ Mem w No w' [bk b2 [v] 45, bk b3 (recV ⟨x.kind, x.r, x.upto, x.c, []⟩ none 0) 84, bk b4 [.bool true] 4, bk b10 [.bool (parts x.kind).1, .bool (parts x.kind).2.1, .bool (parts x.kind).2.2.1] 142] ∧ Sl w v (evsB x.es)) ?_ ?_
    · refine c_cond rfl (fun h => ?_) (fun h => (c_skip (t_n ?_)))
      · have hpe : (parts x.kind).2.2.1 = true := h
        rw [hpe, if_pos rfl] at hp3
        have hsx : Sl w v1 (vput x.es.length ++ evsB x.es) := by rw [hp3]; exact hs2
        refine c_region rfl ?_
        refine s1 (r_mvf h6) ?_
        refine so (o_f02 rfl (c_num18 mm 0 2 x.es.length (evsB x.es) (by omega) hsx (by rw [List.length_append]; omega) rfl rfl (by decide)) ?_)
        rintro _ w17 ⟨v17, rfl, mm, hs3⟩
        refine s1 (r_asi rfl) ?_
        refine wn (t_n ?_)
        exact ⟨_, h1, h2, h3, h4, h6, rfl, mm.pk [0, 1, 2, 3] (by decide), hs3⟩
      · have hpe : (parts x.kind).2.2.1 = false := h
        have he0 : x.es = [] := ok.pe.resolve_left (by rw [hpe]; decide)
        rw [hpe, if_neg (by decide)] at hp3
        subst hp3
        rw [he0]
        exact ⟨_, h1, h2, h3, h4, h6, rfl, mm, hs2⟩
    clear mm hs2 h1 h2 h3 h4 h6
    rintro e w1 ⟨v1, h1, h2, h3, h4, h6, h8, mm, hs2⟩
    refine c_seq (c_label (t_n ?_))
    exact hX _ e w1 ⟨0, none, 0, v1, b10, rfl, h1, h2, h3, h4, h6, h8, mm.nilrow, hs2⟩
  clear mm
  rintro k e w1 ⟨i, ao, co, v1, b10, hki, h1, h2, h3, h4, h6, h8, mm, hs2⟩
  refine c_seq ?_
  refine c_sreg rfl ?_
  refine s1 (r_mvi h8) ?_
  refine s1 (r_gt rfl rfl) ?_
  refine s1 (r_mvb rfl) ?_
  refine sT rfl rfl (fun h => r_ld h3 (mm.b 2 rfl) rfl) ?_
  refine s1 (r_and rfl rfl) ?_
  refine wn ?_
  refine c_cond rfl (fun h => ?_) (fun h => (c_skip (t_n ?_)))
  · have hk0 : 0 < k := by simp at h; omega
    clear h
    have hi : i < x.es.length := by omega
    have hyz := ok.es x.es[i] (List.getElem_mem hi)
    have hyl := putE_le x.es[i] (evMay_ok hyz)
    have hel := evsB_len (l := x.es.drop (i + 1)) (fun y hy => ok.es y (List.mem_of_mem_drop hy))
    rw [List.length_drop] at hel
    rw [evsB_drop _ _ hi] at hs2
    have hs2' := hs2
    obtain ⟨a1, c1, rfl, hcc1, H1⟩ := hs2
    refine c_sreg rfl ?_
    refine s1 (r_ld h1 (mm.b 0 rfl) rfl) ?_
    refine so (o_c1 rfl (c_eTake0 x.es[i] hyz (evsB (x.es.drop (i + 1))) (by rw [List.length_append]; omega) _ _ ⟨a1, c1, rfl, hcc1, mm.ro H1⟩) ?_)
    rintro _ w18 ⟨rfl, hc⟩
    have mm := mm.frame hc
    refine s1 (r_mvu rfl) ?_
    refine s1 (r_extg rfl rfl) ?_
    refine s1 (r_exti rfl rfl) ?_
    refine s1 (r_exti rfl rfl) ?_
    refine so (o_al mm fun b19 w19 mm => ?_)
    refine ss (o_sta mm 5 rfl rfl rfl rfl rfl (Nat.le_of_ble_eq_true rfl) fun w20 mm => ?_)
    refine s1 (r_asi rfl) ?_
    refine s1 (r_asi rfl) ?_
    refine wn ?_
    have mm := mm.pk [0, 1, 2, 3, 5, 4] (by decide)
    have hlt : (x.es.take i).length = i := by rw [List.length_take]; omega
    have hle : (x.es.take (i + 1)).length = (x.es.take i).length + 1 := by rw [List.length_take, List.length_take]; omega
    have hsn : evsC (x.es.take (i + 1)) = evsC (x.es.take i) ++ evC x.es[i] := by rw [List.take_succ_eq_append_getElem hi, evsC_append]; simp [evsC]
    refine c_sdraw2 mixed [(0, some 0), (6, some 0), (8, some 0), (9, some 0), (5, some 1), (7, some 0), (1, some 2), (2, some 2), (3, none), (4, none), (10, some 1), (11, none), (12, none), (13, none)] [0, 1, 2, 2, 1, 0, 0, 0, 0, 0, 1, 1, 0, 0] (Sof (mm.pk [0, 1, 2, 3, 4] (by decide))) (Sof ((mm.pk [0, 1, 2, 3, 4] (by decide)).pk [0] (by decide))) (fun _ h => h.pk [0] (by decide)) (by kernel_rfl) rfl rfl (by kernel_rfl) (fun w21 hc => ?_)
    have mm := mm.frame hc
    refine q01 rfl (fun w => r_fa h2) ?_
    refine q01 rfl (fun w => r_mvi rfl) ?_
    refine q01 rfl (fun w => r_mvi rfl) ?_
    refine q01 rfl (fun w => r_eq rfl rfl) ?_
    refine qB1 rfl (fun w m => r_ld h1 (m.b 0 rfl) rfl) (mm.pk [0] (by decide)) ?_
    refine q01 rfl (fun w => r_sll rfl rfl (by omega) (by rw [List.length_append]; omega)) ?_
    refine qA1 rfl (fun w m => r_ld rfl (m.b 1 rfl) rfl) (mm.pk [0, 1, 2, 3, 4] (by decide)) ?_
    refine qA1 rfl (fun w m => r_lda rfl (m.b 4 rfl) rfl) (mm.pk [0, 1, 2, 3, 4] (by decide)) ?_
    refine qo rfl (o_bg mm (bg rfl bN) rfl rfl (by decide) (by decide) (by decide) fun a22 c22 w22 mm => ⟨(mm.pk [0, 1, 2, 3, 4] (by decide)), ?_⟩)
    refine qo rfl (o_ap mm 5 rfl rfl rfl (src_own mm 6 rfl rfl) (by omega) (by unfold maxLen; omega) fun a23 c23 w23 mm => ⟨(mm.pk [0] (by decide)), ?_⟩)
    refine qB1 rfl (fun w m => r_fa h2) (mm.pk [0] (by decide)) ?_
    refine qs rfl (o_st mm 1 rfl rfl rfl rfl rfl fun w24 mm => ⟨(mm.pk [0] (by decide)), ?_⟩)
    refine qs rfl (o_st mm 0 rfl h1 rfl rfl rfl fun w25 mm => ⟨trivial, ?_⟩)
    refine qs rfl (o_st mm 2 rfl h3 rfl rfl rfl fun w26 mm => ⟨trivial, ?_⟩)
    refine qn ?_
    have mm := (mm.pk [0, 1, 2, 3, 5] (by decide)).cast5 (cs' := recV { x with es := x.es.take (i + 1) } _ _) (n' := (x.es.take (i + 1)).length) (ds' := evsC (x.es.take (i + 1))) (by simp only [recV, hle]; rfl) hle.symm (by rw [hsn]; rfl)
    have hs3 := Sl.drop H1 hcc1 (putE x.es[i]).length (by rw [List.length_append]; omega)
    rw [List.drop_left] at hs3
    refine c_sreg rfl ?_
    refine s1 (r_mvi h8) ?_
    refine s1 (r_sub rfl rfl (show IntKind.i64.wrap (((k : Nat) : Int) - 1) = ((k - 1 : Nat) : Int) from by rw [wi (by omega) (by omega)]; omega)) ?_
    refine s1 (r_asi rfl) ?_
    refine wn ?_
    refine c_goto (t_g (j_g ?_))
    exact ⟨k - 1, by omega, i + 1, _, _, _, b10, by omega, h1, h2, h3, h4, h6, rfl, mm, hs3⟩
  have hk0 : k = 0 := by simp at h; omega
  subst hk0
  clear h
  have hi : i = x.es.length := by omega
  subst hi
  rw [List.drop_length] at hs2
  obtain ⟨a1, c1, rfl, hcc1, H1⟩ := hs2
  have hx : ({ x with es := x.es.take x.es.length } : Rec) = x := by rw [List.take_length]
  rw [hx, List.take_length] at mm
  have hmay := recMay_of ok
  refine c_sdraw2 mixed [(0, some 2), (1, some 2), (2, some 2), (3, some 2), (4, some 2), (5, some 2), (6, some 2), (7, some 2), (8, some 2), (9, none), (10, some 2), (11, none), (12, none)] [0, 2, 2, 2, 2, 2, 2, 2, 2, 2, 2, 2, 0] (Sof mm) (Sof mm) (fun _ h => h) (by kernel_rfl) rfl rfl (by kernel_rfl) (fun w27 hc => ?_)
  have mm := mm.frame hc
  refine qA1 rfl (fun w m => r_lda h2 (m.b 1 rfl) rfl) mm ?_
  refine qA1 rfl (fun w m => r_ld h3 (m.b 2 rfl) rfl) mm ?_
  refine qA1 rfl (fun w m => r_mvb rfl) mm ?_
  refine qAT rfl rfl rfl (fun h w m => r_ld h1 (m.b 0 rfl) rfl) mm ?_
  refine qAT rfl rfl rfl (fun h w m => r_len (sel_t h :)) mm ?_
  refine qAT rfl rfl rfl (fun h w m => r_eq (sel_t h :) rfl) mm ?_
  refine qA1 rfl (fun w m => r_and rfl rfl) mm ?_
  refine qA1 rfl (fun w m => r_mvb rfl) mm ?_
  refine qAT rfl rfl rfl (fun h w m => r_lda h2 (m.b 1 rfl) rfl) mm ?_
  refine qTw (I := Sof mm) rfl rfl rfl mm (fun h => o_c1 (sel_t h :) (c_recMay x _ (mm.c 4 rfl) hw) (fun _ _ hh => ⟨hh.1, mm.frame hh.2⟩)) (fun w28 mm => ⟨mm, ?_⟩)
  refine qA1 rfl (fun w m => r_and rfl rfl) mm ?_
  refine qs rfl (o_sta mm 1 rfl h2 rfl rfl rfl (Nat.le_of_ble_eq_true rfl) fun w29 mm => ⟨mm, ?_⟩)
  refine qs rfl (o_st mm 2 rfl h3 rfl rfl rfl fun w30 mm => ⟨trivial, ?_⟩)
  refine qn ?_
  refine c_ret (retcs rfl h2 (mm.b 1 rfl) rfl h3 (mm.b 2 rfl) ⟨ao, co, ?_, mm.chg, mm.isNew 4 rfl⟩)
  rw [hmay]
  rfl
end Go.Proofs.Ytbcpabfemejlgaa
/- Lists of records in memory; where reading them stops: plain. -/
namespace Go.Proofs.Ytbcpabfemejlgaa
open K

abbrev RecM := Rec × Option Addr × Nat
def rmC (m : RecM) : List Value := recV m.1 m.2.1 m.2.2
def rmsC (l : List RecM) : List Value := l.flatMap rmC
theorem rmC_length (m : RecM) : (rmC m).length = 9 := rfl
theorem flatC_get {α : Type} (C : α → List Value) (n : Nat) (hC : ∀ x, (C x).length = n) : ∀ (l : List α) (i : Nat) (h : i < l.length) (f : Nat), f < n → nth (l.flatMap C) (i * n + f) = nth (C l[i]) f
  | x :: l, 0, _, f, hf => by
    rw [nth_eq, nth_eq, List.flatMap_cons, Nat.zero_mul, Nat.zero_add, List.getElem?_append_left (by rw [hC]; exact hf)]; rfl
  | x :: l, i + 1, h, f, hf => by
    have h1 : i < l.length := by simpa using h
    have ih := flatC_get C n hC l i h1 f hf
    rw [nth_eq] at ih ⊢
    rw [List.flatMap_cons, List.getElem?_append_right (by rw [hC, Nat.add_mul]; omega), hC, show (i + 1) * n + f - n = i * n + f from by rw [Nat.add_mul]; omega, ih]; rfl
theorem flatC_seg {α : Type} (C : α → List Value) (n : Nat) (hC : ∀ x, (C x).length = n) : ∀ (l : List α) (i : Nat) (h : i < l.length) (f k : Nat), f + k ≤ n → seg (l.flatMap C) (i * n + f) k = seg (C l[i]) f k
  | x :: l, 0, _, f, k, hf => by
    unfold seg
    rw [List.flatMap_cons, Nat.zero_mul, Nat.zero_add, List.drop_append_of_le_length (by rw [hC]; omega), List.take_append_of_le_length (by rw [List.length_drop, hC]; omega)]; rfl
  | x :: l, i + 1, h, f, k, hf => by
    have h1 : i < l.length := by simpa using h
    have ih := flatC_seg C n hC l i h1 f k hf
    unfold seg at ih ⊢
    rw [List.flatMap_cons, show (i + 1) * n + f = (C x).length + (i * n + f) from by rw [hC, Nat.add_mul]; omega, List.drop_append, List.drop_of_length_le (Nat.le_add_right _ _), List.nil_append, Nat.add_sub_cancel_left, ih]; rfl
theorem flatC_length {α : Type} (C : α → List Value) (n : Nat) (hC : ∀ x, (C x).length = n) : ∀ l : List α, (l.flatMap C).length = l.length * n
  | [] => by simp
  | x :: l => by rw [List.flatMap_cons, List.length_append, hC, flatC_length C n hC l, List.length_cons, Nat.add_mul]; omega
theorem rmsC_length (l : List RecM) : (rmsC l).length = l.length * 9 := flatC_length rmC 9 rmC_length l
theorem rmsC_append (l m : List RecM) : rmsC (l ++ m) = rmsC l ++ rmsC m := List.flatMap_append
theorem ones_rms : ∀ l : List RecM, ones (rmsC l) = true
  | [] => rfl
  | x :: l => by
    have h : rmsC (x :: l) = rmC x ++ rmsC l := List.flatMap_cons
    rw [h]; exact ones_append rfl (ones_rms l)
theorem rms_seg (l : List RecM) (i : Nat) (h : i < l.length) : seg (rmsC l) (((i : Nat) : Int).toNat * 9) 9 = rmC l[i] := by
  have := flatC_seg rmC 9 rmC_length l i h 0 9 (by decide)
  exact this
theorem rms_le (l : List RecM) (i : Nat) (h : i < l.length) : ((i : Nat) : Int).toNat * 9 + 9 ≤ (rmsC l).length := by rw [rmsC_length]; show i * 9 + 9 ≤ _; omega
theorem rms_nth (l : List RecM) (i : Nat) (h : i < l.length) (f : Nat) (hf : f < 9) : nth (rmsC l) (((i : Nat) : Int).toNat * 9 + f) = nth (rmC l[i]) f := flatC_get rmC 9 rmC_length l i h f hf
theorem rms_seg3 (l : List RecM) (i : Nat) (h : i < l.length) : seg (rmsC l) (((i : Nat) : Int).toNat * 9 + 3) 5 = clkC l[i].1.c := by
  have := flatC_seg rmC 9 rmC_length l i h 3 5 (by decide)
  exact this
theorem rms_le3 (l : List RecM) (i : Nat) (h : i < l.length) : ((i : Nat) : Int).toNat * 9 + 3 + 5 ≤ (rmsC l).length := by rw [rmsC_length]; show i * 9 + 3 + 5 ≤ _; omega
theorem rms_some {w : World} {a : Option Addr} {l : List RecM} (H : Cells w a (rmsC l)) {i : Nat} (h : i < l.length) : a.isSome = true := by
  have h1 := rms_nth l i h 0 (by decide)
  obtain ⟨ad, rfl, _⟩ := H _ (.int .i64 l[i].1.kind) h1
  rfl
/-- The events of these records, wherever they lie. -/
def evi (ms : List RecM) : It where
  foot := fun b => ∃ m ∈ ms, m.1.es ≠ [] ∧ m.2.1.map (·.block) = some b
  holds := fun w => ∀ m ∈ ms, Cells w m.2.1 (evsC m.1.es)
  keep := fun w w' h hk m hm j v hj => by
    obtain ⟨ad, ha, hc⟩ := h m hm j v hj
    refine ⟨ad, ha, ?_⟩
    have hne : m.1.es ≠ [] := by intro he; rw [he] at hj; cases hj
    have := hk (ad.add j).block ⟨m, hm, hne, by rw [ha, Addr.block_add]; rfl⟩
    exact (World.cell?_of_block this).trans hc
  live := fun w b h ⟨m, hm, hne, hb⟩ => by
    obtain ⟨x, l, hl⟩ := List.exists_cons_of_ne_nil hne
    obtain ⟨ad, hc, hd⟩ := h m hm 0 (.int .i64 x.r) (by rw [hl, evsC_cons]; rfl)
    rw [hc] at hb
    simp only [Option.map_some, Option.some.injEq] at hb
    have := World.block_lt_of_cell? w _ hd
    rw [Addr.block_add] at this
    omega
section
variable {w0 w : World} {F0 : Nat → Prop} {L : List It}
theorem K.Mem.evi0 (m : Mem w0 F0 w L) : Mem w0 F0 w (L ++ [evi []]) :=
  m.add (Chg.refl No w) (fun _ h => by cases h) (fun b ⟨_, h, _⟩ => by cases h)
/-- A record's events join those of the others. -/
theorem K.Mem.fuseE (m : Mem w0 F0 w L) (k k' : Nat) {ms : List RecM} {T : TypeId} {x : Rec} {a : Option Addr} {c : Nat} (hk : nth L k = some (evi ms)) (hk' : nth L k' = some (own T 12 a x.es.length c (evsC x.es))) (hkk : k ≠ k') : Mem w0 F0 w (setN (setN L k (evi (ms ++ [(x, a, c)]))) k' triv) := by
  refine m.fuse k k' hk hk' hkk ?_ ?_
  · intro y hy
    rcases List.mem_append.1 hy with hy | hy
    · exact m.ok k _ hk y hy
    · rw [List.mem_singleton.1 hy]; exact m.c k' hk'
  · rintro b ⟨y, hy, hne, hb⟩
    rcases List.mem_append.1 hy with hy | hy
    · exact .inl ⟨y, hy, hne, hb⟩
    · rw [List.mem_singleton.1 hy] at hb; exact .inr hb
theorem K.Mem.evc (m : Mem w0 F0 w L) (k : Nat) {ms : List RecM} (hk : nth L k = some (evi ms)) : ∀ y ∈ ms, Cells w y.2.1 (evsC y.1.es) := m.ok k _ hk
end

/-! ### where reading stops -/
def putsR (l : List Rec) : List UInt8 := l.flatMap putR
theorem putsR_cons (x : Rec) (l : List Rec) : putsR (x :: l) = putR x ++ putsR l := List.flatMap_cons
theorem putsR_append (l m : List Rec) : putsR (l ++ m) = putsR l ++ putsR m := List.flatMap_append
def StopR (t : List UInt8) : Prop := (vtake t).2.2 ≠ 0 ∨ t.length - (vtake t).2.1 < (vtake t).1 ∨ openL ((t.drop (vtake t).2.1).take (vtake t).1) = none
theorem stop_nil : StopR [] := .inl (by decide)
theorem stop_128 : StopR [128] := .inl (by decide)
theorem bodyR_len {x : Rec} (ok : RecOk x) : (bodyR x).length ≤ 200000 := by
  have h1 : ∀ l : List Ev, (∀ y ∈ l, evMay y = 0) → (evsB l).length ≤ 44 * l.length := by
    intro l
    induction l with
    | nil => intro _; exact Nat.le_refl _
    | cons x l ih =>
      intro h
      have h1 := putE_le x (evMay_ok (h x (List.mem_cons_self ..)))
      have h2 := ih (fun y hy => h y (List.mem_cons_of_mem _ hy))
      have h3 : evsB (x :: l) = putE x ++ evsB l := List.flatMap_cons
      rw [h3, List.length_append, List.length_cons]
      omega
  have h2 := h1 x.es ok.es
  have h3 := ok.most
  have h4 := vput_len10 x.es.length (by omega)
  have h5 := vput_len10 x.upto.toNat (by have := ok.u1; omega)
  have hc : ∀ i, i < 5 → (vput (x.c.get i).toNat).length ≤ 10 := fun i hi => vput_len10 _ (by have := ok.c i hi; omega)
  have c0 := hc 0 (by decide); have c1 := hc 1 (by decide); have c2 := hc 2 (by decide); have c3 := hc 3 (by decide); have c4 := hc 4 (by decide)
  have h6 : (clkB x.c 5).length ≤ 50 := by
    show ([0, 1, 2, 3, 4].flatMap fun i : Nat => vput (x.c.get i).toNat).length ≤ 50
    simp only [List.flatMap_cons, List.flatMap_nil, List.length_append, List.length_nil]
    omega
  unfold bodyR
  rw [List.length_append, List.length_append, List.length_append]
  have g1 : (if (parts x.kind).1 then vput x.upto.toNat else []).length ≤ 10 := by split <;> first | omega | (simp; done)
  have g2 : (if (parts x.kind).2.1 then clkB x.c 5 else []).length ≤ 50 := by split <;> first | omega | (simp; done)
  have g3 : (if (parts x.kind).2.2.1 then vput x.es.length ++ evsB x.es else []).length ≤ 190000 := by
    split
    · rw [List.length_append]; omega
    · simp
  have g0 : [UInt8.ofNat x.kind.toNat, UInt8.ofNat x.r.toNat].length = 2 := rfl
  omega
theorem vput_lenR {x : Rec} (ok : RecOk x) : (vput (sealL (bodyR x)).length).length ≤ 3 := by
  have := bodyR_len ok
  have := sealL_length (bodyR x)
  exact vput_len 2 _ (by omega)
theorem vtakeR {x : Rec} (ok : RecOk x) (rest : List UInt8) : vtake (vput (sealL (bodyR x)).length ++ rest) = ((sealL (bodyR x)).length, (vput (sealL (bodyR x)).length).length, 0) :=
  vtake_put _ (by have := vput_lenR ok; omega) rest
/-- A record that is cut stops the reading. -/
theorem stop_cut {x : Rec} (ok : RecOk x) (i : Nat) (hi : i < (putR x).length) : StopR ((putR x).take i) := by
  have h3 := vput_lenR ok
  unfold putR at hi ⊢
  rw [List.length_append] at hi
  generalize hn : (sealL (bodyR x)).length = n at *
  by_cases h : i < (vput n).length
  · left
    rw [List.take_append_of_le_length (by omega), vtake_short n i h (by omega)]
    decide
  · right; left
    have ht : (vput n ++ sealL (bodyR x)).take i = vput n ++ (sealL (bodyR x)).take (i - (vput n).length) := by
      rw [List.take_append, List.take_of_length_le (by omega)]
    rw [ht]
    have hv := vtakeR ok ((sealL (bodyR x)).take (i - (vput n).length))
    rw [hn] at hv
    rw [hv, List.length_append, List.length_take, hn]
    show (vput n).length + min (i - (vput n).length) n - (vput n).length < n
    omega
/-- So does one whose sealed bytes are turned so that they don't open. -/
theorem stop_turned {x : Rec} (ok : RecOk x) (s rest : List UInt8) (hs : s.length = (sealL (bodyR x)).length) (ho : openL s = none) : StopR (vput (sealL (bodyR x)).length ++ (s ++ rest)) := by
  right; right
  rw [vtakeR ok, List.drop_left]
  show openL ((s ++ rest).take (sealL (bodyR x)).length) = none
  rw [← hs, List.take_left]
  exact ho
end Go.Proofs.Ytbcpabfemejlgaa
/- record.All, of records behind one another and what stops it: the walk. -/
namespace Go.Proofs.Ytbcpabfemejlgaa
open K
set_option maxRecDepth 100000
set_option maxHeartbeats 4000000

theorem K.Mem.castr {w0 w : World} {F0 : Nat → Prop} {I : It} {T : TypeId} {sz n n' c : Nat} {a : Option Addr} {cs cs' : List Value} (h : Mem w0 F0 w [own T sz a n c cs, I]) (hn : n = n') (hc : cs = cs') : Mem w0 F0 w [own T sz a n' c cs', I] := by subst hn; subst hc; exact h
theorem putsR_take (rs : List Rec) (i : Nat) (h : i < rs.length) : putsR (rs.take (i + 1)) = putsR (rs.take i) ++ putR rs[i] := by
  rw [List.take_succ_eq_append_getElem h, putsR_append, putsR_cons]; simp [putsR]
theorem putsR_drop (rs : List Rec) (i : Nat) (h : i < rs.length) : putsR (rs.drop i) = putR rs[i] ++ putsR (rs.drop (i + 1)) := by
  rw [List.drop_eq_getElem_cons h, putsR_cons]
theorem putsR_split (rs : List Rec) (i : Nat) (t : List UInt8) : (putsR rs ++ t).drop (putsR (rs.take i)).length = putsR (rs.drop i) ++ t := by
  have h : putsR rs = putsR (rs.take i) ++ putsR (rs.drop i) := by rw [← putsR_append, List.take_append_drop]
  rw [h, List.append_assoc, List.drop_left]
theorem putsR_ge : ∀ rs : List Rec, rs.length ≤ (putsR rs).length
  | [] => Nat.zero_le _
  | x :: l => by rw [putsR_cons, List.length_append, List.length_cons]; have := putR_len x; have := putsR_ge l; omega
theorem Sl.fr {w w' : World} {v : Value} {b : List UInt8} (h : Sl w v b) (hc : Chg No w w') : Sl w' v b := by
  obtain ⟨a, c, rfl, hcc, H⟩ := h
  exact ⟨a, c, rfl, hcc, H.fr hc⟩
theorem c_open0 (b : List UInt8) (hb : (sealL b).length ≤ 1099511627776) (v : Value) (w : World) (hs : Sl w v (sealL b)) : Cl Try.prog 29 #[v] w (fun v w' => ∃ a c, v = .tuple #[.slice a b.length c, .bool true] ∧ Chg No w w' ∧ New w w' (own 5 1 a b.length c (u8s b))) := by
  have h := c_open (sealL b) hb v w hs
  have h1 : openV (sealL b) = b := by unfold openV; rw [openL_seal]; rfl
  rw [h1, openL_seal] at h
  exact h
theorem Sl.part {w : World} {a : Option Addr} {c : Nat} {s : List UInt8} (H : Cells w a (u8s s)) (hc : s.length ≤ c) (l h : Nat) (hl : l ≤ h) (hh : h ≤ s.length) : Sl w (.slice (slA a c l 1) (h - l) (c - l)) ((s.drop l).take (h - l)) := by
  obtain ⟨a', c', he, hc', H'⟩ := Sl.drop H hc l (by omega)
  injection he with e1 e2 e3
  subst e1; subst e3
  refine ⟨slA a c l 1, c - l, ?_, ?_, ?_⟩
  · rw [List.length_take, List.length_drop]; congr 1; omega
  · rw [List.length_take, List.length_drop]; omega
  · unfold u8s; rw [List.map_take]; exact H'.take _
theorem c_vtakeV (b : List UInt8) (hb : b.length ≤ 4611686018427387904) {n k : Nat} {er : Int} (h : vtake b = (n, k, er)) (v : Value) (w : World) (hs : Sl w v b) : Cl Try.prog 30 #[v] w (fun r w' => r = .tuple #[.int .u64 (n : Nat), .int .i64 (k : Nat), .int .i64 er] ∧ Chg No w w') := by
  have h1 := c_vtake b hb v w hs
  rw [h] at h1
  exact h1
theorem c_rAllC (rs : List Rec) (hok : ∀ x ∈ rs, RecOk x) (t : List UInt8) (hst : StopR t) (hlen : (putsR rs ++ t).length ≤ 1000000000) (v : Value) (w : World) (hs : Sl w v (putsR rs ++ t)) : Cl Try.prog 34 #[v] w
    (fun r w' => ∃ (ms : List RecM) (a : Option Addr) (c : Nat), ms.map (·.1) = rs ∧ (∀ y ∈ ms, y.1.es.length ≤ y.2.2) ∧ r = .tuple #[.slice a ms.length c, .int .i64 (putsR rs).length] ∧ Mem w No w' [own 84 9 a ms.length c (rmsC ms), evi ms]) := by
  generalize hb : putsR rs ++ t = b at *
  have hbl : b.length = (putsR rs).length + t.length := by rw [← hb, List.length_append]
  obtain ⟨a, c, rfl, hcc, H⟩ := hs
  refine f_enter (args := [_]) Try.func34 rfl rfl ?_
  have mm := Mem.nil No w
  refine c_sreg rfl ?_
  refine s1 (r_ass rfl) ?_
  refine s1 (r_asi rfl) ?_
  refine wn ?_
  refine c_sreg rfl ?_
  refine s1 (r_ass rfl) ?_
  refine wn ?_
  refine c_sreg rfl ?_
  refine s1 (r_asi rfl) ?_
  refine wn ?_
  refine c_block ?_
  refine c_loop (fun k e w' => ∃ (i : Nat) (ms : List RecM) (ao : Option Addr) (co : Nat), k + i = rs.length ∧ ms.map (·.1) = rs.take i ∧ (∀ y ∈ ms, y.1.es.length ≤ y.2.2) ∧ e 0 = .slice a b.length c ∧ e 4 = .slice ao ms.length co ∧ e 5 = .int .i64 ((putsR (rs.take i)).length : Nat) ∧ Mem w No w' [own 84 9 ao ms.length co (rmsC ms), evi ms]) rs.length ?_ ?_
  · exact ⟨0, [], none, 0, rfl, rfl, fun _ h => (by cases h), rfl, rfl, rfl, (mm.nilrow (T := 84) (sz := 9)).evi0⟩
  clear mm
  rintro k e w9 ⟨i, ms, ao, co, hki, hms, hcp, h0, h4, h5, mm⟩
  have hmsl : ms.length ≤ rs.length := by have := congrArg List.length hms; rw [List.length_map, List.length_take] at this; omega
  have hrsl := putsR_ge rs
  have hsp := putsR_split rs i t
  rw [hb] at hsp
  have hAl : (putsR (rs.take i)).length ≤ b.length := by
    have h1 : putsR rs = putsR (rs.take i) ++ putsR (rs.drop i) := by rw [← putsR_append, List.take_append_drop]
    have h2 := congrArg List.length h1
    rw [List.length_append] at h2
    omega
  have hsl := Sl.drop H hcc (putsR (rs.take i)).length hAl
  generalize hA : (putsR (rs.take i)).length = A at *
  rw [hsp] at hsl
  refine c_block ?_
  have hdl := congrArg List.length hsp
  rw [List.length_drop, List.length_append] at hdl
  by_cases hi : i < rs.length
  · have ok := hok rs[i] (List.getElem_mem hi)
    have h3 := vput_lenR ok
    have hbd := bodyR_len ok
    have hput : putR rs[i] = vput (sealL (bodyR rs[i])).length ++ sealL (bodyR rs[i]) := rfl
    have hds := putsR_drop rs i hi
    have hts := putsR_take rs i hi
    have htl := congrArg List.length hts
    rw [List.length_append, hA, hput, List.length_append] at htl
    generalize hx : rs[i] = x at *
    have hSl := sealL_length (bodyR x)
    generalize hn : (sealL (bodyR x)).length = n at *
    rw [hds, hput, List.append_assoc, List.append_assoc] at hsl
    have hdl2 := congrArg List.length hds
    rw [List.length_append, hput, List.length_append, hn] at hdl2
    have hpart : ∀ w', Cells w' a (u8s b) → Sl w' (.slice (slA a c (A + (vput n).length) 1) (A + (vput n).length + n - (A + (vput n).length)) (c - (A + (vput n).length))) (sealL (bodyR x)) := fun w' Hw => by
      have h9 := Sl.part Hw hcc (A + (vput n).length) (A + (vput n).length + n) (by omega) (by omega)
      have h8 : (b.drop (A + (vput n).length)).take (A + (vput n).length + n - (A + (vput n).length)) = sealL (bodyR x) := by
        rw [← List.drop_drop, hsp, hds, hput, List.append_assoc, List.append_assoc, List.drop_left, Nat.add_sub_cancel_left, ← hn, List.take_left]
      rw [h8] at h9
      exact h9
    refine c_sreg rfl ?_
    refine s1 (r_mvs h0) ?_
    refine s1 (r_mvi h5) ?_
    refine s1 (r_sll rfl rfl (by omega) (by omega)) ?_
    refine so (o_c1 rfl (c_vtake0 n (sealL (bodyR x) ++ (putsR (rs.drop (i + 1)) ++ t)) (by omega) (by rw [List.length_append, List.length_append, List.length_append]; omega) _ _ (hsl.fr mm.chg)) ?_)
    rintro _ w2 ⟨rfl, hc⟩
    have mm := mm.frame hc
    refine s1 (r_mvu rfl) ?_
    refine s1 (r_exti rfl rfl) ?_
    refine s1 (r_exti rfl rfl) ?_
    refine s1 (r_exti rfl rfl) ?_
    refine s1 (r_asi rfl) ?_
    refine s1 (r_asi rfl) ?_
    refine s1 (r_asi rfl) ?_
    refine wn ?_
    refine c_seq ?_
    refine c_sreg rfl ?_
    refine s1 (r_mvi rfl) ?_
    refine s1 (r_ne rfl rfl) ?_
    refine s1 (r_mvb rfl) ?_
    refine sF rfl rfl (fun h => r_mvi rfl) ?_
    refine sF rfl rfl (fun h => r_mvs h0) ?_
    refine sF rfl rfl (fun h => r_len (sel_t h :)) ?_
    refine sF rfl rfl (fun h => r_mvi h5) ?_
    refine sF rfl rfl (fun h => r_sub (sel_t h :) (sel_t h :) (wi (by omega) (by omega))) ?_
    refine sF rfl rfl (fun h => r_mvi rfl) ?_
    refine sF rfl rfl (fun h => r_sub (sel_t h :) (sel_t h :) (wi (by omega) (by omega))) ?_
    refine sF rfl rfl (fun h => r_cv (sel_t h :) (wu64 (by omega) (by omega))) ?_
    refine sF rfl rfl (fun h => r_gt (sel_t h :) (sel_t h :)) ?_
    refine s1 (r_or rfl rfl) ?_
    refine wn ?_
    refine c_cond rfl (fun h => ?_) (fun h => (c_skip (t_n ?_)))
    · exfalso; simp at h; omega
    clear h
    refine c_sreg rfl ?_
    refine s1 (r_mvi h5) ?_
    refine s1 (r_mvi rfl) ?_
    refine s1 (r_add rfl rfl (wi (by omega) (by omega))) ?_
    refine s1 (r_mvi rfl) ?_
    refine s1 (r_cv rfl (wi (by omega) (by omega))) ?_
    refine s1 (r_add rfl rfl (wi (by omega) (by omega))) ?_
    refine s1 (r_asi rfl) ?_
    refine wn ?_
    refine c_sreg rfl ?_
    refine s1 (r_mvs h0) ?_
    refine s1 (r_mvi h5) ?_
    refine s1 (r_mvi rfl) ?_
    refine s1 (r_add rfl rfl (wi (by omega) (by omega))) ?_
    refine s1 (r_mvi rfl) ?_
    refine s1 (r_slb rfl rfl rfl (by omega) (by omega) (by omega)) ?_
    refine so (o_c1 rfl (c_open0 (bodyR x) (by omega) _ _ (hpart _ (mm.ro H))) ?_)
    rintro _ w3 ⟨a3, c3, rfl, hc, hn'⟩
    have mm := mm.new hc hn'
    refine s1 (r_mvu rfl) ?_
    refine s1 (r_exts rfl rfl) ?_
    refine s1 (r_extb rfl rfl) ?_
    refine s1 (r_ass rfl) ?_
    refine s1 (r_asb rfl) ?_
    refine wn ?_
    refine c_seq ?_
    refine c_sreg rfl ?_
    refine s1 (r_mvb rfl) ?_
    refine s1 (r_not rfl) ?_
    refine wn ?_
    refine c_cond rfl (fun h => ?_) (fun h => (c_skip (t_n ?_)))
    · cases h
    clear h
    refine c_sreg rfl ?_
    refine s1 (r_mvs rfl) ?_
    refine so (o_c1 rfl (c_rBody x ok _ _ (Sl.own mm 2 rfl)) ?_)
    rintro _ w4 ⟨a4, c4, rfl, hc, hn''⟩
    have mm := mm.new hc hn''
    refine s1 (r_mvu rfl) ?_
    refine s1 (r_extg rfl rfl) ?_
    refine s1 (r_extb rfl rfl) ?_
    refine so (o_al mm fun b5 w5 mm => ?_)
    refine ss (o_sta mm 4 rfl rfl rfl rfl rfl (Nat.le_of_ble_eq_true rfl) fun w6 mm => ?_)
    refine s1 (r_asb rfl) ?_
    refine wn ?_
    refine c_seq ?_
    refine c_sreg rfl ?_
    refine s1 (r_mvb rfl) ?_
    refine s1 (r_not rfl) ?_
    refine wn ?_
    refine c_cond rfl (fun h => ?_) (fun h => (c_skip (t_n ?_)))
    · cases h
    clear h
    refine c_region rfl ?_
    refine s1 (r_mvs h4) ?_
    refine s1 (r_lda rfl (mm.b 4 rfl) rfl) ?_
    refine so (o_bg mm (bg rfl bN) rfl rfl (by decide) (by decide) (by decide) fun a7 c7 w7 mm => ?_)
    refine so (o_ap mm 0 rfl rfl rfl (src_own mm 5 rfl rfl) (by omega) (by unfold maxLen; omega) fun a8 c8 w8 mm => ?_)
    refine s1 (r_mvi rfl) ?_
    refine s1 (r_ass rfl) ?_
    refine s1 (r_asi rfl) ?_
    refine wn (b_n (t_n ?_))
    have hcn := own_le (mm.o 3 rfl)
    have mm := (mm.fuseE 1 3 (x := x) rfl rfl (by decide)).pk [0, 1] (by decide)
    have mm := mm.castr (n' := (ms ++ [(x, a4, c4)]).length) (cs' := rmsC (ms ++ [(x, a4, c4)])) (by rw [List.length_append]; rfl) (by rw [rmsC_append]; rfl)
    have hts2 : rs.take (i + 1) = rs.take i ++ [x] := by rw [List.take_succ_eq_append_getElem hi, hx]
    refine ⟨k - 1, by omega, i + 1, ms ++ [(x, a4, c4)], _, _, by omega, by rw [List.map_append, hms, hts2]; rfl, ?_, h0, ?_, ?_, mm⟩
    · intro y hy
      rcases List.mem_append.1 hy with hy | hy
      · exact hcp y hy
      · rw [List.mem_singleton.1 hy]; exact hcn
    · rw [List.length_append]; rfl
    · rw [htl]
      exact congrArg (Value.int .i64) (show ((A : Nat) : Int) + (((vput n).length : Nat) : Int) + ((n : Nat) : Int) = ((A + ((vput n).length + n) : Nat) : Int) by omega)
  have hil : i = rs.length := by
    have h1 : ¬ i < rs.length := hi
    omega
  have hms' : ms.map (·.1) = rs := by rw [hms, hil, List.take_length]
  have hA' : A = (putsR rs).length := by rw [← hA, hil, List.take_length]
  have hd0 : rs.drop i = [] := by rw [hil, List.drop_length]
  rw [hd0] at hsl hdl hsp
  have hsl : Sl w (.slice (slA a c A 1) (b.length - A) (c - A)) t := hsl
  have hsp : b.drop A = t := hsp
  rw [← hA']
  have hve := vtake_err (b := t)
  have h10 : (vtake t).2.2 = 0 → (vtake t).2.1 ≤ t.length := fun hz => by
    rcases hve with hve | hve | hve
    · exact hve.2.2
    · omega
    · omega
  unfold StopR at hst
  obtain ⟨n, kk, er, hvt⟩ : ∃ n kk er, vtake t = (n, kk, er) := ⟨_, _, _, rfl⟩
  rw [hvt] at hst h10
  simp only at hst h10
  refine c_sreg rfl ?_
  refine s1 (r_mvs h0) ?_
  refine s1 (r_mvi h5) ?_
  refine s1 (r_sll rfl rfl (by omega) (by omega)) ?_
  refine so (o_c1 rfl (c_vtakeV t (by omega) hvt _ _ (hsl.fr mm.chg)) ?_)
  rintro _ w9 ⟨rfl, hc⟩
  have mm := mm.frame hc
  refine s1 (r_mvu rfl) ?_
  refine s1 (r_exti rfl rfl) ?_
  refine s1 (r_exti rfl rfl) ?_
  refine s1 (r_exti rfl rfl) ?_
  refine s1 (r_asi rfl) ?_
  refine s1 (r_asi rfl) ?_
  refine s1 (r_asi rfl) ?_
  refine wn ?_
  refine c_seq ?_
  refine c_sreg rfl ?_
  refine s1 (r_mvi rfl) ?_
  refine s1 (r_ne rfl rfl) ?_
  refine s1 (r_mvb rfl) ?_
  refine sF rfl rfl (fun h => r_mvi rfl) ?_
  refine sF rfl rfl (fun h => r_mvs h0) ?_
  refine sF rfl rfl (fun h => r_len (sel_t h :)) ?_
  refine sF rfl rfl (fun h => r_mvi h5) ?_
  refine sF rfl rfl (fun h => r_sub (sel_t h :) (sel_t h :) (wi (by omega) (by omega))) ?_
  refine sF rfl rfl (fun h => r_mvi rfl) ?_
  refine sF rfl rfl (fun h => r_sub (sel_t h :) (sel_t h :) (wi (by have := h10 (by simpa using h); omega) (by omega))) ?_
  refine sF rfl rfl (fun h => r_cv (sel_t h :) (wu64 (by have := h10 (by simpa using h); omega) (by omega))) ?_
  refine sF rfl rfl (fun h => r_gt (sel_t h :) (sel_t h :)) ?_
  refine s1 (r_or rfl rfl) ?_
  refine wn ?_
  refine c_cond rfl (fun h => ?_) (fun h => (c_skip (t_n ?_)))
  · refine c_sreg rfl ?_
    refine s1 (r_mvs h4) ?_
    refine s1 (r_mvi h5) ?_
    refine s1 (r_ass rfl) ?_
    refine s1 (r_asi rfl) ?_
    refine wn ?_
    exact c_ret (ret2 rfl rfl rfl ⟨ms, ao, co, hms', hcp, rfl, mm⟩)
  have hz : er = 0 := by simp at h; omega
  have hn : n ≤ t.length - kk := by have := h10 hz; simp at h; omega
  have h10 := h10 hz
  clear h
  have hop : openL ((t.drop kk).take n) = none := by
    rcases hst with hst | hst | hst
    · exact absurd hz hst
    · omega
    · exact hst
  refine c_sreg rfl ?_
  refine s1 (r_mvi h5) ?_
  refine s1 (r_mvi rfl) ?_
  refine s1 (r_add rfl rfl (wi (by omega) (by omega))) ?_
  refine s1 (r_mvi rfl) ?_
  refine s1 (r_cv rfl (wi (by omega) (by omega))) ?_
  refine s1 (r_add rfl rfl (wi (by omega) (by omega))) ?_
  refine s1 (r_asi rfl) ?_
  refine wn ?_
  have hpart : ∀ w', Cells w' a (u8s b) → Sl w' (.slice (slA a c (A + kk) 1) (A + kk + n - (A + kk)) (c - (A + kk))) ((t.drop kk).take n) := fun w' Hw => by
    have h9 := Sl.part Hw hcc (A + kk) (A + kk + n) (by omega) (by omega)
    rw [← List.drop_drop, hsp, Nat.add_sub_cancel_left] at h9
    rw [Nat.add_sub_cancel_left]
    exact h9
  refine c_sreg rfl ?_
  refine s1 (r_mvs h0) ?_
  refine s1 (r_mvi h5) ?_
  refine s1 (r_mvi rfl) ?_
  refine s1 (r_add rfl rfl (wi (by omega) (by omega))) ?_
  refine s1 (r_mvi rfl) ?_
  refine s1 (r_slb rfl rfl rfl (by omega) (by omega) (by omega)) ?_
  refine so (o_c1 rfl (c_open ((t.drop kk).take n) (by rw [List.length_take]; omega) _ _ (hpart _ (mm.ro H))) ?_)
  rintro _ w10 ⟨a10, c10, rfl, hc, hn'⟩
  have mm := mm.frame hc
  refine s1 (r_mvu rfl) ?_
  refine s1 (r_exts rfl rfl) ?_
  refine s1 (r_extb rfl rfl) ?_
  refine s1 (r_ass rfl) ?_
  refine s1 (r_asb rfl) ?_
  refine wn ?_
  rw [hop] at *
  refine c_seq ?_
  refine c_sreg rfl ?_
  refine s1 (r_mvb rfl) ?_
  refine s1 (r_not rfl) ?_
  refine wn ?_
  refine c_cond rfl (fun h => ?_) (fun h => (c_skip (t_n ?_)))
  · refine c_sreg rfl ?_
    refine s1 (r_mvs h4) ?_
    refine s1 (r_mvi h5) ?_
    refine s1 (r_ass rfl) ?_
    refine s1 (r_asi rfl) ?_
    refine wn ?_
    exact c_ret (ret2 rfl rfl rfl ⟨ms, ao, co, hms', hcp, rfl, mm⟩)
  · cases h
theorem c_rAll (rs : List Rec) (hok : ∀ x ∈ rs, RecOk x) (t : List UInt8) (hst : StopR t) (hlen : (putsR rs ++ t).length ≤ 1000000000) (v : Value) (w : World) (hs : Sl w v (putsR rs ++ t)) : Cl Try.prog 34 #[v] w
    (fun r w' => ∃ (ms : List RecM) (a : Option Addr) (c : Nat), ms.map (·.1) = rs ∧ r = .tuple #[.slice a ms.length c, .int .i64 (putsR rs).length] ∧ Mem w No w' [own 84 9 a ms.length c (rmsC ms), evi ms]) :=
  Cl.mono (c_rAllC rs hok t hst hlen v w hs) fun _ _ h => by obtain ⟨ms, a, c, h1, _, h2, h3⟩ := h; exact ⟨ms, a, c, h1, h2, h3⟩
end Go.Proofs.Ytbcpabfemejlgaa
/- kithref18.in, May, Put, of a record that may be: walks. -/
namespace Go.Proofs.Ytbcpabfemejlgaa
open K
set_option maxRecDepth 100000
set_option maxHeartbeats 4000000

theorem inEv_of {n : Int} (h0 : 0 ≤ n) (h1 : n ≤ 1048576) : inEv n = true := by simp [inEv]; omega
theorem parts_cases {k : Int} (h : (parts k).2.2.2 = true) : k = 1 ∨ k = 2 ∨ k = 3 ∨ k = 4 ∨ k = 5 ∨ k = 6 := by have := parts_in h; omega
theorem c_put6z (x : Ev) (hx : evMay x = 0) (w : World) : Cl Try.prog 25 #[.agg (evC x).toArray] w (fun v w' => ∃ a c, v = .tuple #[.slice a (putE x).length c, .int .i64 0] ∧ Chg No w w' ∧ New w w' (own 5 1 a (putE x).length c (u8s (putE x)))) := by
  have h := c_put6 x w
  rw [if_pos hx, hx] at h
  exact h
end Go.Proofs.Ytbcpabfemejlgaa
/- kithref06.Same, kithref18.Same, kithlaw18.made: walks. -/
namespace Go.Proofs.Ytbcpabfemejlgaa
open K
set_option maxRecDepth 100000
set_option maxHeartbeats 4000000

/-- A slice of records, and their events. -/
def Slr (w : World) (v : Value) (l : List RecM) : Prop := ∃ a c, v = .slice a l.length c ∧ Cells w a (rmsC l) ∧ ∀ m ∈ l, Cells w m.2.1 (evsC m.1.es)
theorem recW_of {x : Rec} (ok : RecOk x) : RecW x := ⟨clkW_of fun i hi => by have := ok.c i hi; exact ⟨by omega, by omega⟩, fun y hy => evW_of (evMay_ok (ok.es y hy)), by have := ok.most; omega⟩
end Go.Proofs.Ytbcpabfemejlgaa
/- kithlaw18.made: the walk. -/
namespace Go.Proofs.Ytbcpabfemejlgaa
open K
set_option maxRecDepth 100000
set_option maxHeartbeats 4000000

def offs (rs : List Rec) (n : Nat) : List Value := (List.range n).map fun i => Value.int .i64 ((putsR (rs.take i)).length : Nat)
theorem offs_succ (rs : List Rec) (n : Nat) : offs rs (n + 1) = offs rs n ++ [Value.int .i64 ((putsR (rs.take n)).length : Nat)] := by unfold offs; rw [List.range_succ, List.map_append]; rfl
theorem offs_congr {rs ss : List Rec} {n : Nat} (h : rs.take n = ss.take n) : offs rs n = offs ss n := by
  unfold offs
  apply List.map_congr_left
  intro i hi
  have hi : i < n := List.mem_range.1 hi
  have : rs.take i = ss.take i := by
    have h1 := congrArg (List.take i) h
    rw [List.take_take, List.take_take, Nat.min_eq_left (by omega)] at h1
    exact h1
  rw [this]
theorem offs_get (rs : List Rec) (n i : Nat) (h : i < n) : nth (offs rs n) (((i : Nat) : Int).toNat * 1) = some (.int .i64 ((putsR (rs.take i)).length : Nat)) := by
  rw [nth_eq]
  simp [offs, h]
def madeR (l : List RecM) (n : Nat) : List Rec := (l.take n).map fun m => fitRec m.1
theorem madeR_succ (l : List RecM) (i : Nat) (h : i < l.length) : madeR l (i + 1) = madeR l i ++ [fitRec l[i].1] := by
  unfold madeR; rw [List.take_succ_eq_append_getElem h, List.map_append]; rfl
theorem madeR_len (l : List RecM) (i : Nat) (h : i ≤ l.length) : (madeR l i).length = i := by unfold madeR; rw [List.length_map, List.length_take]; omega
theorem madeR_ok (l : List RecM) (i : Nat) : ∀ x ∈ madeR l i, RecOk x := by
  intro x hx
  obtain ⟨m, _, rfl⟩ := List.mem_map.1 hx
  exact fitRec_ok m.1
theorem putR_le {x : Rec} (ok : RecOk x) : (putR x).length ≤ 210000 := by
  have h1 := bodyR_len ok
  have h2 := vput_lenR ok
  have h3 := sealL_length (bodyR x)
  unfold putR
  rw [List.length_append]
  omega
theorem putsR_le : ∀ rs : List Rec, (∀ x ∈ rs, RecOk x) → (putsR rs).length ≤ 210000 * rs.length
  | [], _ => Nat.le_refl _
  | x :: l, h => by
    have h1 := putR_le (h x (List.mem_cons_self ..))
    have h2 := putsR_le l (fun y hy => h y (List.mem_cons_of_mem _ hy))
    rw [putsR_cons, List.length_append, List.length_cons]
    omega
/-- The three slices that 'made' gives, and the records' events. -/
def mdL (ms : List RecM) (rs : List Rec) (ao : Option Addr) (co : Nat) (ab : Option Addr) (cb : Nat) (aa : Option Addr) (ca : Nat) : List It :=
  [own 84 9 ao ms.length co (rmsC ms), own 5 1 ab (putsR rs).length cb (u8s (putsR rs)), own 3 1 aa rs.length ca (offs rs rs.length), evi ms]
theorem K.Mem.castm {w0 w : World} {F0 : Nat → Prop} {T1 T2 T3 : TypeId} {s1' s2 s3 n1 n1' n2 n2' n3 n3' c1 c2 c3 : Nat} {a1 a2 a3 : Option Addr} {x1 x1' x2 x2' x3 x3' : List Value} {I : It} (h : Mem w0 F0 w [own T1 s1' a1 n1 c1 x1, own T2 s2 a2 n2 c2 x2, own T3 s3 a3 n3 c3 x3, I])
    (e1 : n1 = n1') (e2 : n2 = n2') (e3 : n3 = n3') (f1 : x1 = x1') (f2 : x2 = x2') (f3 : x3 = x3') : Mem w0 F0 w [own T1 s1' a1 n1' c1 x1', own T2 s2 a2 n2' c2 x2', own T3 s3 a3 n3' c3 x3', I] := by subst e1; subst e2; subst e3; subst f1; subst f2; subst f3; exact h
end Go.Proofs.Ytbcpabfemejlgaa
/- kithlaw18.RecordFields: the walk. -/
namespace Go.Proofs.Ytbcpabfemejlgaa
open K
set_option maxRecDepth 100000
set_option maxHeartbeats 4000000

theorem not_may {x : Rec} (h : RecOk x → False) : recMay x = false := by
  cases hq : recMay x with
  | false => rfl
  | true => exact (h (recMay_ok hq)).elim
theorem evZ_may : evMay evZ ≠ 0 := by decide
theorem clk_set_w {c : Clk} (h : ClkW c) (i : Nat) (v : Int) (hv : i64 v) : ClkW (c.set i v) := by
  obtain ⟨h0, h1, h2, h3, h4⟩ := h
  unfold Clk.set
  split <;> exact ⟨by first | exact hv | exact h0, by first | exact hv | exact h1, by first | exact hv | exact h2, by first | exact hv | exact h3, by first | exact hv | exact h4⟩
theorem clk_ok_w {c : Clk} (h : ∀ i, i < 5 → 0 ≤ c.get i ∧ c.get i ≤ 1048576) : ClkW c := clkW_of fun i hi => by have := h i hi; exact ⟨by omega, by omega⟩
theorem K.Mem.caste {w0 w : World} {F0 : Nat → Prop} {I : It} {b : Nat} {cs cs' ds ds' : List Value} {T T' : TypeId} {sz n n' c : Nat} {a : Option Addr} (h : Mem w0 F0 w [I, own T' sz a n c ds, bk b cs T]) (hc : cs = cs') (hn : n = n') (hd : ds = ds') : Mem w0 F0 w [I, own T' sz a n' c ds', bk b cs' T] := by subst hc; subst hn; subst hd; exact h
end Go.Proofs.Ytbcpabfemejlgaa
