/- record.body, of the bytes of a record that may be: the walk. -/
import Derived.Test.YtgdbbaggkoillaaRc
import Derived.Test.YtgdbbaggkoillaaKp
import Derived.Test.YtgdbbaggkoillaaFe
namespace Go.Proofs.Ytgdbbaggkoillaa
open K
set_option maxRecDepth 100000
set_option maxHeartbeats 4000000

theorem vput_le3 (n : Nat) (h : n ≤ 1048577) : (vput n).length ≤ 3 := vput_len 2 n (by omega)
theorem wi64n (n : Nat) (h : n ≤ 1048577) : IntKind.i64.wrap (min (n : Int) 1048577) = ((n : Nat) : Int) := by
  have : min (n : Int) 1048577 = (n : Nat) := by omega
  rw [this]; exact wi (by omega) (by omega)
theorem c_vtake0 (n : Nat) (rest : List UInt8) (hn : n ≤ 1048576 * 128) (hl : (vput n ++ rest).length ≤ 4611686018427387904) (v : Value) (w : World) (hs : Sl w v (vput n ++ rest)) : Cl Try.prog 42 #[v] w (fun r w' => r = .tuple #[.int .u64 (n : Nat), .int .i64 ((vput n).length : Nat), .int .i64 0] ∧ Chg No w w') := by
  have h := c_vtake (vput n ++ rest) hl v w hs
  rw [vtake_put n (Nat.le_trans (vput_len 3 n (by omega)) (by decide)) rest] at h
  exact h
/-- The closure that takes a number, where one stands. -/
theorem c_num18 {w0 w : World} {L : List It} (mm0 : Mem w0 No w L) (k k' : Nat) {b1 b3 : Nat} {v : Value} (n : Nat) (rest : List UInt8) (hn : n ≤ 1048576) (hs : Sl w0 v (vput n ++ rest)) (hl : (vput n ++ rest).length ≤ 4611686018427387904)
    (hk : nth L k = some (bk b1 [v] 28)) (hk' : nth L k' = some (bk b3 [.bool true] 4)) (hkk : k ≠ k') :
    Cl Try.prog 92 #[.pointer (some ⟨b1, 0, none⟩), .pointer (some ⟨b3, 0, none⟩)] w (fun r w' => ∃ v', r = .int .i64 (n : Nat) ∧ Mem w0 No w' (setN (setN L k (bk b1 [v'] 28)) k' (bk b3 [.bool true] 4)) ∧ Sl w0 v' rest) := by
  have h3 := vput_le3 n (by omega)
  obtain ⟨a, c, rfl, hcc, H⟩ := hs
  have mm := mm0.pick2 k k' hk hk' hkk
  refine f_enter (args := [_, _]) Try.func92 rfl rfl ?_
  refine c_sreg rfl ?_
  refine s1 (r_asi rfl) ?_
  refine wn ?_
  refine c_sreg rfl ?_
  refine s1 (r_ld rfl (mm.b 0 rfl) rfl) ?_
  refine so (o_c1 rfl (c_vtake0 n rest (by omega) hl _ _ ⟨a, c, rfl, hcc, mm0.ro H⟩) ?_)
  rintro _ w2 ⟨rfl, hc⟩
  have mm := mm.frame hc
  refine s1 (r_mvu rfl) ?_
  refine s1 (r_exti rfl rfl) ?_
  refine s1 (r_exti rfl rfl) ?_
  refine s1 (r_exti rfl rfl) ?_
  refine s1 (r_asi rfl) ?_
  refine s1 (r_asi rfl) ?_
  refine s1 (r_asi rfl) ?_
  refine wn ?_
  refine c_sdraw2 mixed [(1, some 0), (3, some 1), (4, some 0), (5, some 0), (6, some 0), (7, some 0), (0, some 2), (2, some 1), (8, none), (9, none)] [1, 0, 1, 0, 0, 0, 0, 0, 0, 0] (Sof mm) (Sof (mm.pk [1] (by decide))) (fun _ h => h.pk [1] (by decide)) (by kernel_rfl) rfl rfl (by kernel_rfl) (fun w3 hc => ?_)
  have mm := mm.frame hc
  refine q01 rfl (fun w => r_mvi rfl) ?_
  refine qB1 rfl (fun w m => r_ld rfl (m.b 0 rfl) rfl) (mm.pk [1] (by decide)) ?_
  refine q01 rfl (fun w => r_mvb rfl) ?_
  refine q0T rfl rfl rfl (fun h w => r_mvi rfl) ?_
  refine q0T rfl rfl rfl (fun h w => r_eq (sel_t h :) rfl) ?_
  refine q01 rfl (fun w => r_and rfl rfl) ?_
  refine qA1 rfl (fun w m => r_ld rfl (m.b 0 rfl) rfl) mm ?_
  refine qB1 rfl (fun w m => r_sll rfl rfl (by omega) (by rw [List.length_append] at *; omega)) (mm.pk [1] (by decide)) ?_
  refine qs rfl (o_st mm 0 rfl rfl rfl rfl rfl fun w4 mm => ⟨trivial, ?_⟩)
  refine qs rfl (o_st mm 1 rfl rfl rfl rfl rfl fun w5 mm => ⟨trivial, ?_⟩)
  refine qn ?_
  refine c_sreg rfl ?_
  refine s1 (r_mvi rfl) ?_
  refine s1 (r_min2 rfl rfl) ?_
  refine s1 (r_cv rfl (wi64n n (by omega))) ?_
  refine s1 (r_asi rfl) ?_
  refine wn ?_
  have h9 := mm0.lift2 k k' hk hk' hkk mm
  refine c_ret (ret1 rfl rfl ⟨_, rfl, h9, ?_⟩)
  have hd := Sl.drop H hcc (vput n).length (by rw [List.length_append]; omega)
  rw [List.drop_left] at hd
  exact hd
theorem byte_int (n : Int) (h0 : 0 ≤ n) (h1 : n ≤ 255) : IntKind.i64.wrap (((UInt8.ofNat n.toNat).toNat : Nat) : Int) = n := by
  have h : (UInt8.ofNat n.toNat).toNat = n.toNat := by rw [UInt8.toNat_ofNat']; omega
  rw [h, wi (by omega) (by omega)]; omega
theorem evsB_cons (x : Ev) (l : List Ev) : evsB (x :: l) = putE x ++ evsB l := List.flatMap_cons
theorem evsB_drop (l : List Ev) (i : Nat) (h : i < l.length) : evsB (l.drop i) = putE l[i] ++ evsB (l.drop (i + 1)) := by
  rw [List.drop_eq_getElem_cons h, evsB_cons]
theorem takeE_len (x : Ev) (hk : EvOk x) (rest : List UInt8) : takeE (putE x ++ rest) = (x, ((putE x).length : Int), 0) := takeE_put x hk rest
theorem c_eTake0 (x : Ev) (hx : evMay x = 0) (rest : List UInt8) (hl : (putE x ++ rest).length ≤ 4611686018427387904) (v : Value) (w : World) (hs : Sl w v (putE x ++ rest)) : Cl Try.prog 24 #[v] w (fun r w' => r = .tuple #[.agg (evC x).toArray, .int .i64 ((putE x).length : Nat), .int .i64 0] ∧ Chg No w w') := by
  have h := c_eTake (putE x ++ rest) hl v w hs
  rw [takeE_put x (evMay_ok hx) rest] at h
  exact h
/-- The clock's bytes from place i on. -/
def clkT (c : Clk) (i : Nat) : List UInt8 := ((List.range 5).drop i).flatMap fun i : Nat => vput (c.get i).toNat
theorem clkT_0 (c : Clk) : clkT c 0 = clkB c 5 := rfl
theorem clkT_5 (c : Clk) : clkT c 5 = [] := rfl
theorem clkT_succ (c : Clk) (i : Nat) (h : i < 5) : clkT c i = vput (c.get i).toNat ++ clkT c (i + 1) := by
  match i, h with
  | 0, _ => rfl | 1, _ => rfl | 2, _ => rfl | 3, _ => rfl | 4, _ => rfl
theorem clkT_len (c : Clk) (hc : ∀ i, i < 5 → 0 ≤ c.get i ∧ c.get i ≤ 1048576) (i : Nat) : (clkT c i).length ≤ 50 := by
  have h0 := hc 0 (by decide); have h1 := hc 1 (by decide); have h2 := hc 2 (by decide); have h3 := hc 3 (by decide); have h4 := hc 4 (by decide)
  have l0 := vput_len10 (c.get 0).toNat (by omega); have l1 := vput_len10 (c.get 1).toNat (by omega); have l2 := vput_len10 (c.get 2).toNat (by omega); have l3 := vput_len10 (c.get 3).toNat (by omega); have l4 := vput_len10 (c.get 4).toNat (by omega)
  have e5 : clkT c 5 = [] := rfl
  rcases Nat.lt_or_ge i 5 with hi | hi
  · have q4 := clkT_succ c 4 (by decide); have q3 := clkT_succ c 3 (by decide); have q2 := clkT_succ c 2 (by decide); have q1 := clkT_succ c 1 (by decide); have q0 := clkT_succ c 0 (by decide)
    have r4 := congrArg List.length q4; have r3 := congrArg List.length q3; have r2 := congrArg List.length q2; have r1 := congrArg List.length q1; have r0 := congrArg List.length q0
    have r5 := congrArg List.length e5
    rw [List.length_append] at r4 r3 r2 r1 r0
    simp only [Nat.reduceAdd, List.length_nil] at r4 r3 r2 r1 r0 r5
    match i, hi with
    | 0, _ => omega
    | 1, _ => omega
    | 2, _ => omega
    | 3, _ => omega
    | 4, _ => omega
  · have : clkT c i = [] := by unfold clkT; rw [List.drop_eq_nil_of_le (by simp; omega)]; rfl
    rw [this]; simp
theorem K.Mem.cast2 {w0 w : World} {F0 : Nat → Prop} {I J M : It} {b : Nat} {cs cs' : List Value} {T : TypeId} (h : Mem w0 F0 w [I, bk b cs T, J, M]) (hc : cs = cs') : Mem w0 F0 w [I, bk b cs' T, J, M] := by subst hc; exact h
theorem K.Mem.cast5 {w0 w : World} {F0 : Nat → Prop} {I J M : It} {b : Nat} {cs cs' ds ds' : List Value} {T T' : TypeId} {sz n n' c : Nat} {a : Option Addr} (h : Mem w0 F0 w [I, bk b cs T, J, M, own T' sz a n c ds]) (hc : cs = cs') (hn : n = n') (hd : ds = ds') : Mem w0 F0 w [I, bk b cs' T, J, M, own T' sz a n' c ds'] := by subst hc; subst hn; subst hd; exact h
theorem c_rBody (x : Rec) (ok : RecOk x) (v : Value) (w : World) (hs : Sl w v (bodyR x)) : Cl Try.prog 74 #[v] w
    (fun r w' => ∃ a c, r = .tuple #[.agg (recV x a c).toArray, .bool true] ∧ Chg No w w' ∧ NewR w w' a c x.es) := by
  have hkin := parts_in ok.is
  have hw : ClkW x.c := clkW_of fun i hi => by have := ok.c i hi; exact ⟨by omega, by omega⟩
  have hmost := ok.most
  have hl44 := evsB_len ok.es
  have hu10 := vput_len10 x.upto.toNat (by have := ok.u1; omega)
  have hn10 := vput_len10 x.es.length (by omega)
  have hcl := clkB_len x.c ok.c 5 (Nat.le_refl _)
  generalize hp3 : (if (parts x.kind).2.2.1 then vput x.es.length ++ evsB x.es else []) = q3
  generalize hp2 : (if (parts x.kind).2.1 then clkB x.c 5 else []) = q2
  generalize hp1 : (if (parts x.kind).1 then vput x.upto.toNat else []) = q1
  have hl3 : q3.length ≤ 190000 := by
    rw [← hp3]
    split
    · rw [List.length_append]; omega
    · simp
  have hl2 : q2.length ≤ 50 := by rw [← hp2]; split <;> first | omega | (simp; done)
  have hl1 : q1.length ≤ 10 := by rw [← hp1]; split <;> first | omega | (simp; done)
  have hb : bodyR x = UInt8.ofNat x.kind.toNat :: UInt8.ofNat x.r.toNat :: (q1 ++ (q2 ++ q3)) := by
    unfold bodyR
    rw [hp1, hp2, hp3]
    simp
  rw [hb] at hs
  generalize hB : UInt8.ofNat x.kind.toNat :: UInt8.ofNat x.r.toNat :: (q1 ++ (q2 ++ q3)) = B at *
  have hBl : B.length = 2 + (q1.length + (q2.length + q3.length)) := by rw [← hB]; simp; omega
  obtain ⟨a, c, rfl, hcc, H⟩ := hs
  refine f_enter (args := [_]) Try.func74 rfl rfl ?_
  have mm := Mem.nil No w
  refine c_sreg rfl ?_
  refine so (o_bx mm rfl rfl fun b2 w2 mm => ?_)
  refine so (o_al mm fun b3 w3 mm => ?_)
  refine so (o_al mm fun b4 w4 mm => ?_)
  refine wn ?_
  refine c_scope (l := 0) rfl (fun k e w' => ∃ (i : Nat) (ao : Option Addr) (co : Nat) (v : Value) (b7 : Nat), k + i = x.es.length ∧ e 1 = .pointer (some ⟨b2, 0, none⟩) ∧ e 2 = .pointer (some ⟨b3, 0, none⟩) ∧ e 3 = .pointer (some ⟨b4, 0, none⟩) ∧ e 4 = .pointer (some ⟨b7, 0, none⟩) ∧ e 6 = .func (.func 92) #[] #[.pointer (some ⟨b2, 0, none⟩), .pointer (some ⟨b4, 0, none⟩)] ∧ e 8 = .int .i64 (k : Nat) ∧ Mem w No w' [bk b2 [v] 28, bk b3 (recV { x with es := x.es.take i } ao co) 43, bk b4 [.bool true] 4, bk b7 [.bool (parts x.kind).1, .bool (parts x.kind).2.1, .bool (parts x.kind).2.2.1] 87, own 25 12 ao (x.es.take i).length co (evsC (x.es.take i))] ∧ Sl w v (evsB (x.es.drop i))) ?_ ?_
  rotate_left
  · intro hX
    have hB0 : nth (u8s B) 0 = some (u8 (UInt8.ofNat x.kind.toNat)) := by rw [← hB]; rfl
    have hB1 : nth (u8s B) 1 = some (u8 (UInt8.ofNat x.r.toNat)) := by rw [← hB]; rfl
    have hB2 : B.drop 2 = q1 ++ (q2 ++ q3) := by rw [← hB]; rfl
    refine c_seq ?_
    refine c_sreg rfl ?_
    refine s1 (r_ld rfl (mm.b 0 rfl) rfl) ?_
    refine s1 (r_len rfl) ?_
    refine s1 (r_lt rfl rfl) ?_
    refine wn ?_
    refine c_cond rfl (fun h => ?_) (fun h => (c_skip (t_n ?_)))
    · exfalso; simp at h; omega
    clear h
    refine c_sdraw2 mixed [(0, some 2), (1, some 0), (2, some 2), (3, some 0), (8, some 0), (4, some 2), (5, some 2), (6, some 2), (7, some 2), (9, none), (10, some 0), (11, none)] [0, 0, 0, 0, 2, 2, 2, 2, 0, 2, 0, 0] (Sof (mm.pk [0] (by decide))) (Sof (mm.pk [0] (by decide))) (fun _ h => h) (by kernel_rfl) rfl rfl (by kernel_rfl) (fun w5 hc => ?_)
    have mm := mm.frame hc
    refine qA1 rfl (fun w m => r_ld rfl (m.b 0 rfl) rfl) (mm.pk [0] (by decide)) ?_
    refine q01 rfl (fun w => r_ix rfl rfl (by omega) (by omega) (H.some hB0)) ?_
    refine qA1 rfl (fun w m => r_ldc rfl (m.ro H) hB0) (mm.pk [0] (by decide)) ?_
    refine q01 rfl (fun w => r_cv rfl (byte_int x.kind (by omega) (by omega))) ?_
    refine q01 rfl (fun w => r_fa rfl) ?_
    refine qA1 rfl (fun w m => r_ld rfl (m.b 0 rfl) rfl) (mm.pk [0] (by decide)) ?_
    refine qA1 rfl (fun w m => r_ix rfl rfl (by omega) (by omega) (H.some hB1)) (mm.pk [0] (by decide)) ?_
    refine qA1 rfl (fun w m => r_ldc rfl (m.ro H) hB1) (mm.pk [0] (by decide)) ?_
    refine qA1 rfl (fun w m => r_cv rfl (byte_int x.r ok.r0 (by have := ok.r5; omega))) (mm.pk [0] (by decide)) ?_
    refine qs rfl (o_st mm 1 rfl rfl rfl rfl rfl fun w6 mm => ⟨(mm.pk [0] (by decide)), ?_⟩)
    refine q01 rfl (fun w => r_fa rfl) ?_
    refine qs rfl (o_st mm 1 rfl rfl rfl rfl rfl fun w7 mm => ⟨trivial, ?_⟩)
    refine qn ?_
    refine c_sreg rfl ?_
    refine s1 (r_ld rfl (mm.b 0 rfl) rfl) ?_
    refine s1 (r_sll rfl rfl (by omega) (by omega)) ?_
    refine ss (o_st mm 0 rfl rfl rfl rfl rfl fun w8 mm => ?_)
    refine wn ?_
    have hs2 := Sl.drop H hcc 2 (by omega)
    rw [hB2] at hs2
    have mm : Mem w No _ [bk b2 [Value.slice (slA a c 2 1) (B.length - 2) (c - 2)] 28, bk b3 (recV ⟨x.kind, x.r, 0, clk0, []⟩ none 0) 43, bk b4 [.bool false] 4] := mm
    generalize Value.slice (slA a c 2 1) (B.length - 2) (c - 2) = v1 at *
    refine c_sreg rfl ?_
    refine s1 (r_fa rfl) ?_
    refine s1 (r_ld rfl (mm.b 1 rfl) rfl) ?_
    refine so (o_c1 rfl (c_parts x.kind _) ?_)
    rintro _ w9 ⟨rfl, hc⟩
    have mm := mm.frame hc
    refine s1 (r_mvu rfl) ?_
    refine s1 (r_extg rfl rfl) ?_
    refine s1 (r_extb rfl rfl) ?_
    refine so (o_al mm fun b10 w10 mm => ?_)
    refine ss (o_sta mm 3 rfl rfl rfl rfl rfl (Nat.le_of_ble_eq_true rfl) fun w11 mm => ?_)
    refine s1 (r_asb rfl) ?_
    refine wn ?_
    have hpis := ok.is
    refine c_seq ?_
    refine c_sreg rfl ?_
    refine s1 (r_mvb rfl) ?_
    refine s1 (r_not rfl) ?_
    refine wn ?_
    refine c_cond rfl (fun h => ?_) (fun h => (c_skip (t_n ?_)))
    · exfalso; rw [hpis] at h; cases h
    clear h
    refine c_sreg rfl ?_
    refine ss (o_st mm 2 rfl rfl rfl rfl rfl fun w12 mm => ?_)
    refine wn ?_
    refine c_sreg rfl ?_
    refine s1 (r_fn2 rfl rfl) ?_
    refine s1 (r_asf rfl) ?_
    refine wn ?_
    have mm : Mem w No _ [bk b2 [v1] 28, bk b3 (recV ⟨x.kind, x.r, 0, clk0, []⟩ none 0) 43, bk b4 [.bool true] 4, bk b10 [.bool (parts x.kind).1, .bool (parts x.kind).2.1, .bool (parts x.kind).2.2.1] 87] := mm
    refine c_seq ?_
    refine c_sreg rfl ?_
    refine s1 (r_fa rfl) ?_
    refine s1 (r_ld rfl (mm.b 3 rfl) rfl) ?_
    refine wn ?_
    refine c_mid0 (fun e w' => ∃ v, e 1 = .pointer (some ⟨b2, 0, none⟩) ∧ e 2 = .pointer (some ⟨b3, 0, none⟩) ∧ e 3 = .pointer (some ⟨b4, 0, none⟩) ∧ e 4 = .pointer (some ⟨b10, 0, none⟩) ∧ e 6 = .func (.func 92) #[] #[.pointer (some ⟨b2, 0, none⟩), .pointer (some ⟨b4, 0, none⟩)] ∧ Mem w No w' [bk b2 [v] 28, bk b3 (recV ⟨x.kind, x.r, x.upto, clk0, []⟩ none 0) 43, bk b4 [.bool true] 4, bk b10 [.bool (parts x.kind).1, .bool (parts x.kind).2.1, .bool (parts x.kind).2.2.1] 87] ∧ Sl w v (q2 ++ q3)) ?_ ?_
    · refine c_cond rfl (fun h => ?_) (fun h => (c_skip (t_n ?_)))
      · have hpu : (parts x.kind).1 = true := h
        rw [hpu, if_pos rfl] at hp1
        have hsx : Sl w v1 (vput x.upto.toNat ++ (q2 ++ q3)) := by rw [hp1]; exact hs2
        refine c_region rfl ?_
        refine s1 (r_mvf rfl) ?_
        refine so (o_f02 rfl (c_num18 mm 0 2 x.upto.toNat (q2 ++ q3) (by have := ok.u1; omega) hsx (by rw [List.length_append, List.length_append]; omega) rfl rfl (by decide)) ?_)
        rintro _ w13 ⟨v13, rfl, mm, hs3⟩
        refine s1 (r_fa rfl) ?_
        refine ss (o_st mm 1 rfl rfl rfl rfl rfl fun w14 mm => ?_)
        refine wn (t_n ?_)
        have hu : ((x.upto.toNat : Nat) : Int) = x.upto := by have := ok.u0; omega
        refine ⟨_, rfl, rfl, rfl, rfl, rfl, ?_, hs3⟩
        rw [hu] at mm
        exact mm.pk [0, 1, 2, 3] (by decide)
      · have hpu : (parts x.kind).1 = false := h
        have hu : x.upto = 0 := ok.pu.resolve_left (by rw [hpu]; decide)
        rw [hpu, if_neg (by decide)] at hp1
        subst hp1
        rw [hu]
        exact ⟨_, rfl, rfl, rfl, rfl, rfl, mm, hs2⟩
    clear mm hs2
    rintro e w1 ⟨v1, h1, h2, h3, h4, h6, mm, hs2⟩
    refine c_seq ?_
    refine c_sreg rfl ?_
    refine s1 (r_fa h4) ?_
    refine s1 (r_ld rfl (mm.b 3 rfl) rfl) ?_
    refine wn ?_
    refine c_mid0 (fun e w' => ∃ v, e 1 = .pointer (some ⟨b2, 0, none⟩) ∧ e 2 = .pointer (some ⟨b3, 0, none⟩) ∧ e 3 = .pointer (some ⟨b4, 0, none⟩) ∧ e 4 = .pointer (some ⟨b10, 0, none⟩) ∧ e 6 = .func (.func 92) #[] #[.pointer (some ⟨b2, 0, none⟩), .pointer (some ⟨b4, 0, none⟩)] ∧ Mem w No w' [bk b2 [v] 28, bk b3 (recV ⟨x.kind, x.r, x.upto, x.c, []⟩ none 0) 43, bk b4 [.bool true] 4, bk b10 [.bool (parts x.kind).1, .bool (parts x.kind).2.1, .bool (parts x.kind).2.2.1] 87] ∧ Sl w v q3) ?_ ?_
    · refine c_cond rfl (fun h => ?_) (fun h => (c_skip (t_n ?_)))
      · have hpc : (parts x.kind).2.1 = true := h
        rw [hpc, if_pos rfl] at hp2
        clear h
        refine c_sreg rfl ?_
        refine s1 (r_mvi rfl) ?_
        refine wn ?_
        refine c_block ?_
        refine c_loop (fun k e w' => ∃ (i : Nat) (cc : Clk) (v : Value), k + i = 5 ∧ e 1 = .pointer (some ⟨b2, 0, none⟩) ∧ e 2 = .pointer (some ⟨b3, 0, none⟩) ∧ e 3 = .pointer (some ⟨b4, 0, none⟩) ∧ e 4 = .pointer (some ⟨b10, 0, none⟩) ∧ e 6 = .func (.func 92) #[] #[.pointer (some ⟨b2, 0, none⟩), .pointer (some ⟨b4, 0, none⟩)] ∧ e 45 = .int .i64 (i : Nat) ∧ Mem w No w' [bk b2 [v] 28, bk b3 (recV ⟨x.kind, x.r, x.upto, cc, []⟩ none 0) 43, bk b4 [.bool true] 4, bk b10 [.bool (parts x.kind).1, .bool (parts x.kind).2.1, .bool (parts x.kind).2.2.1] 87] ∧ Sl w v (clkT x.c i ++ q3) ∧ ∀ j, j < i → j < 5 → cc.get j = x.c.get j) 5 ?_ ?_
        · exact ⟨0, clk0, v1, rfl, h1, h2, h3, h4, h6, rfl, mm, by rw [clkT_0, hp2]; exact hs2, fun j hj => absurd hj (by omega)⟩
        clear mm hs2 h1 h2 h3 h4 h6
        rintro k e w9 ⟨i, cc, v1, hki, h1, h2, h3, h4, h6, h45, mm, hs2, hcc'⟩
        refine c_sreg rfl ?_
        refine s1 (r_lt h45 rfl) ?_
        refine wn ?_
        refine c_seq ?_
        refine c_cond rfl (fun h => (c_skip (t_n ?_))) (fun h => (c_exit (t_x (t_x (b_x (t_n ?_))))))
        · have hi : i < 5 := by simp at h; omega
          clear h
          have hci := ok.c i hi
          have hct := clkT_len x.c ok.c i
          have hct1 := clkT_len x.c ok.c (i + 1)
          rw [clkT_succ x.c i hi, List.append_assoc] at hs2
          refine c_seq ?_
          refine c_block ?_
          refine c_sreg rfl ?_
          refine s1 (r_mvi h45) ?_
          refine s1 (r_asi rfl) ?_
          refine wn ?_
          refine c_region rfl ?_
          refine s1 (r_mvi rfl) ?_
          refine s1 (r_mvf h6) ?_
          refine so (o_f02 rfl (c_num18 mm 0 2 (x.c.get i).toNat (clkT x.c (i + 1) ++ q3) (by omega) hs2 (by have := vput_len10 (x.c.get i).toNat (by omega); rw [List.length_append, List.length_append]; omega) rfl rfl (by decide)) ?_)
          rintro _ w15 ⟨v15, rfl, mm, hs3⟩
          refine s1 (r_fa h2) ?_
          refine s1 (r_ixa rfl rfl (by omega) (by omega)) ?_
          refine ss (o_st mm 1 rfl rfl rfl rfl (blt_rvi _ _ _ i hi) fun w16 mm => ?_)
          refine wn (b_n (t_n ?_))
          have mm := (mm.pk [0, 1, 2, 3] (by decide)).cast2 (setN_rvi _ _ _ i hi _)
          refine c_region rfl ?_
          refine s1 (r_add h45 rfl (wi (by omega) (by omega))) ?_
          refine s1 (r_mvi rfl) ?_
          refine wn (t_n ?_)
          refine ⟨k - 1, by omega, i + 1, _, _, by omega, h1, h2, h3, h4, h6, rfl, mm, hs3, ?_⟩
          intro j hj hj5
          show (cc.set i _).get j = _
          rw [Clk.get_set _ _ _ hi hj5]
          by_cases hij : i = j
          · rw [if_pos hij, ← hij]; omega
          · rw [if_neg hij]; exact hcc' j (by omega) hj5
        · have hi : i = 5 := by simp at h; omega
          subst hi
          have hce : cc = x.c := Clk.ext' fun j hj => hcc' j hj hj
          subst hce
          rw [clkT_5] at hs2
          exact ⟨_, h1, h2, h3, h4, h6, mm, hs2⟩
      · have hpc : (parts x.kind).2.1 = false := h
        have hc0 : x.c = clk0 := ok.pc.resolve_left (by rw [hpc]; decide)
        rw [hpc, if_neg (by decide)] at hp2
        subst hp2
        rw [hc0]
        exact ⟨_, h1, h2, h3, h4, h6, mm, hs2⟩
    clear mm hs2 h1 h2 h3 h4 h6
    rintro e w1 ⟨v1, h1, h2, h3, h4, h6, mm, hs2⟩
    refine c_sreg rfl ?_
    refine s1 (r_asi rfl) ?_
    refine wn ?_
    refine c_seq ?_
    refine c_sreg rfl ?_
    refine s1 (r_fa h4) ?_
    refine s1 (r_ld rfl (mm.b 3 rfl) rfl) ?_
    refine wn ?_
    refine c_mid0 (fun e w' => ∃ v, e 1 = .pointer (some ⟨b2, 0, none⟩) ∧ e 2 = .pointer (some ⟨b3, 0, none⟩) ∧ e 3 = .pointer (some ⟨b4, 0, none⟩) ∧ e 4 = .pointer (some ⟨b10, 0, none⟩) ∧ e 6 = .func (.func 92) #[] #[.pointer (some ⟨b2, 0, none⟩), .pointer (some ⟨b4, 0, none⟩)] ∧ e 8 = .int .i64 (x.es.length : Nat) ∧ Mem w No w' [bk b2 [v] 28, bk b3 (recV ⟨x.kind, x.r, x.upto, x.c, []⟩ none 0) 43, bk b4 [.bool true] 4, bk b10 [.bool (parts x.kind).1, .bool (parts x.kind).2.1, .bool (parts x.kind).2.2.1] 87] ∧ Sl w v (evsB x.es)) ?_ ?_
    · refine c_cond rfl (fun h => ?_) (fun h => (c_skip (t_n ?_)))
      · have hpe : (parts x.kind).2.2.1 = true := h
        rw [hpe, if_pos rfl] at hp3
        have hsx : Sl w v1 (vput x.es.length ++ evsB x.es) := by rw [hp3]; exact hs2
        refine c_region rfl ?_
        refine s1 (r_mvf h6) ?_
        refine so (o_f02 rfl (c_num18 mm 0 2 x.es.length (evsB x.es) (by omega) hsx (by rw [List.length_append]; omega) rfl rfl (by decide)) ?_)
        rintro _ w17 ⟨v17, rfl, mm, hs3⟩
        refine s1 (r_asi rfl) ?_
        refine wn (t_n ?_)
        exact ⟨_, h1, h2, h3, h4, h6, rfl, mm.pk [0, 1, 2, 3] (by decide), hs3⟩
      · have hpe : (parts x.kind).2.2.1 = false := h
        have he0 : x.es = [] := ok.pe.resolve_left (by rw [hpe]; decide)
        rw [hpe, if_neg (by decide)] at hp3
        subst hp3
        rw [he0]
        exact ⟨_, h1, h2, h3, h4, h6, rfl, mm, hs2⟩
    clear mm hs2 h1 h2 h3 h4 h6
    rintro e w1 ⟨v1, h1, h2, h3, h4, h6, h8, mm, hs2⟩
    refine c_seq (c_label (t_n ?_))
    exact hX _ e w1 ⟨0, none, 0, v1, b10, rfl, h1, h2, h3, h4, h6, h8, mm.nilrow, hs2⟩
  clear mm
  rintro k e w1 ⟨i, ao, co, v1, b10, hki, h1, h2, h3, h4, h6, h8, mm, hs2⟩
  refine c_seq ?_
  refine c_sreg rfl ?_
  refine s1 (r_mvi h8) ?_
  refine s1 (r_gt rfl rfl) ?_
  refine s1 (r_mvb rfl) ?_
  refine sT rfl rfl (fun h => r_ld h3 (mm.b 2 rfl) rfl) ?_
  refine s1 (r_and rfl rfl) ?_
  refine wn ?_
  refine c_cond rfl (fun h => ?_) (fun h => (c_skip (t_n ?_)))
  · have hk0 : 0 < k := by simp at h; omega
    clear h
    have hi : i < x.es.length := by omega
    have hyz := ok.es x.es[i] (List.getElem_mem hi)
    have hyl := putE_le x.es[i] (evMay_ok hyz)
    have hel := evsB_len (l := x.es.drop (i + 1)) (fun y hy => ok.es y (List.mem_of_mem_drop hy))
    rw [List.length_drop] at hel
    rw [evsB_drop _ _ hi] at hs2
    have hs2' := hs2
    obtain ⟨a1, c1, rfl, hcc1, H1⟩ := hs2
    refine c_sreg rfl ?_
    refine s1 (r_ld h1 (mm.b 0 rfl) rfl) ?_
    refine so (o_c1 rfl (c_eTake0 x.es[i] hyz (evsB (x.es.drop (i + 1))) (by rw [List.length_append]; omega) _ _ ⟨a1, c1, rfl, hcc1, mm.ro H1⟩) ?_)
    rintro _ w18 ⟨rfl, hc⟩
    have mm := mm.frame hc
    refine s1 (r_mvu rfl) ?_
    refine s1 (r_extg rfl rfl) ?_
    refine s1 (r_exti rfl rfl) ?_
    refine s1 (r_exti rfl rfl) ?_
    refine so (o_al mm fun b19 w19 mm => ?_)
    refine ss (o_sta mm 5 rfl rfl rfl rfl rfl (Nat.le_of_ble_eq_true rfl) fun w20 mm => ?_)
    refine s1 (r_asi rfl) ?_
    refine s1 (r_asi rfl) ?_
    refine wn ?_
    have mm := mm.pk [0, 1, 2, 3, 5, 4] (by decide)
    have hlt : (x.es.take i).length = i := by rw [List.length_take]; omega
    have hle : (x.es.take (i + 1)).length = (x.es.take i).length + 1 := by rw [List.length_take, List.length_take]; omega
    have hsn : evsC (x.es.take (i + 1)) = evsC (x.es.take i) ++ evC x.es[i] := by rw [List.take_succ_eq_append_getElem hi, evsC_append]; simp [evsC]
    refine c_sdraw2 mixed [(0, some 0), (6, some 0), (8, some 0), (9, some 0), (5, some 1), (7, some 0), (1, some 2), (2, some 2), (3, none), (4, none), (10, some 1), (11, none), (12, none), (13, none)] [0, 1, 2, 2, 1, 0, 0, 0, 0, 0, 1, 1, 0, 0] (Sof (mm.pk [0, 1, 2, 3, 4] (by decide))) (Sof ((mm.pk [0, 1, 2, 3, 4] (by decide)).pk [0] (by decide))) (fun _ h => h.pk [0] (by decide)) (by kernel_rfl) rfl rfl (by kernel_rfl) (fun w21 hc => ?_)
    have mm := mm.frame hc
    refine q01 rfl (fun w => r_fa h2) ?_
    refine q01 rfl (fun w => r_mvi rfl) ?_
    refine q01 rfl (fun w => r_mvi rfl) ?_
    refine q01 rfl (fun w => r_eq rfl rfl) ?_
    refine qB1 rfl (fun w m => r_ld h1 (m.b 0 rfl) rfl) (mm.pk [0] (by decide)) ?_
    refine q01 rfl (fun w => r_sll rfl rfl (by omega) (by rw [List.length_append]; omega)) ?_
    refine qA1 rfl (fun w m => r_ld rfl (m.b 1 rfl) rfl) (mm.pk [0, 1, 2, 3, 4] (by decide)) ?_
    refine qA1 rfl (fun w m => r_lda rfl (m.b 4 rfl) rfl) (mm.pk [0, 1, 2, 3, 4] (by decide)) ?_
    refine qo rfl (o_bg mm (bg rfl bN) rfl rfl (by decide) (by decide) (by decide) fun a22 c22 w22 mm => ⟨(mm.pk [0, 1, 2, 3, 4] (by decide)), ?_⟩)
    refine qo rfl (o_ap mm 5 rfl rfl rfl (src_own mm 6 rfl rfl) (by omega) (by unfold maxLen; omega) fun a23 c23 w23 mm => ⟨(mm.pk [0] (by decide)), ?_⟩)
    refine qB1 rfl (fun w m => r_fa h2) (mm.pk [0] (by decide)) ?_
    refine qs rfl (o_st mm 1 rfl rfl rfl rfl rfl fun w24 mm => ⟨(mm.pk [0] (by decide)), ?_⟩)
    refine qs rfl (o_st mm 0 rfl h1 rfl rfl rfl fun w25 mm => ⟨trivial, ?_⟩)
    refine qs rfl (o_st mm 2 rfl h3 rfl rfl rfl fun w26 mm => ⟨trivial, ?_⟩)
    refine qn ?_
    have mm := (mm.pk [0, 1, 2, 3, 5] (by decide)).cast5 (cs' := recV { x with es := x.es.take (i + 1) } _ _) (n' := (x.es.take (i + 1)).length) (ds' := evsC (x.es.take (i + 1))) (by simp only [recV, hle]; rfl) hle.symm (by rw [hsn]; rfl)
    have hs3 := Sl.drop H1 hcc1 (putE x.es[i]).length (by rw [List.length_append]; omega)
    rw [List.drop_left] at hs3
    refine c_sreg rfl ?_
    refine s1 (r_mvi h8) ?_
    refine s1 (r_sub rfl rfl (show IntKind.i64.wrap (((k : Nat) : Int) - 1) = ((k - 1 : Nat) : Int) from by rw [wi (by omega) (by omega)]; omega)) ?_
    refine s1 (r_asi rfl) ?_
    refine wn ?_
    refine c_goto (t_g (j_g ?_))
    exact ⟨k - 1, by omega, i + 1, _, _, _, b10, by omega, h1, h2, h3, h4, h6, rfl, mm, hs3⟩
  have hk0 : k = 0 := by simp at h; omega
  subst hk0
  clear h
  have hi : i = x.es.length := by omega
  subst hi
  rw [List.drop_length] at hs2
  obtain ⟨a1, c1, rfl, hcc1, H1⟩ := hs2
  have hx : ({ x with es := x.es.take x.es.length } : Rec) = x := by rw [List.take_length]
  rw [hx, List.take_length] at mm
  have hmay := recMay_of ok
  refine c_sdraw2 mixed [(0, some 2), (1, some 2), (2, some 2), (3, some 2), (4, some 2), (5, some 2), (6, some 2), (7, some 2), (8, some 2), (9, none), (10, some 2), (11, none), (12, none)] [0, 2, 2, 2, 2, 2, 2, 2, 2, 2, 2, 2, 0] (Sof mm) (Sof mm) (fun _ h => h) (by kernel_rfl) rfl rfl (by kernel_rfl) (fun w27 hc => ?_)
  have mm := mm.frame hc
  refine qA1 rfl (fun w m => r_lda h2 (m.b 1 rfl) rfl) mm ?_
  refine qA1 rfl (fun w m => r_ld h3 (m.b 2 rfl) rfl) mm ?_
  refine qA1 rfl (fun w m => r_mvb rfl) mm ?_
  refine qAT rfl rfl rfl (fun h w m => r_ld h1 (m.b 0 rfl) rfl) mm ?_
  refine qAT rfl rfl rfl (fun h w m => r_len (sel_t h :)) mm ?_
  refine qAT rfl rfl rfl (fun h w m => r_eq (sel_t h :) rfl) mm ?_
  refine qA1 rfl (fun w m => r_and rfl rfl) mm ?_
  refine qA1 rfl (fun w m => r_mvb rfl) mm ?_
  refine qAT rfl rfl rfl (fun h w m => r_lda h2 (m.b 1 rfl) rfl) mm ?_
  refine qTw (I := Sof mm) rfl rfl rfl mm (fun h => o_c1 (sel_t h :) (c_recMay x _ (mm.c 4 rfl) hw) (fun _ _ hh => ⟨hh.1, mm.frame hh.2⟩)) (fun w28 mm => ⟨mm, ?_⟩)
  refine qA1 rfl (fun w m => r_and rfl rfl) mm ?_
  refine qs rfl (o_sta mm 1 rfl h2 rfl rfl rfl (Nat.le_of_ble_eq_true rfl) fun w29 mm => ⟨mm, ?_⟩)
  refine qs rfl (o_st mm 2 rfl h3 rfl rfl rfl fun w30 mm => ⟨trivial, ?_⟩)
  refine qn ?_
  refine c_ret (retcs rfl h2 (mm.b 1 rfl) rfl h3 (mm.b 2 rfl) ⟨ao, co, ?_, mm.chg, mm.isNew 4 rfl⟩)
  rw [hmay]
  rfl
end Go.Proofs.Ytgdbbaggkoillaa

