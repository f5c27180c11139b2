/- frame.number, frame.body, frame.Take: walks. -/
import Derived.Test.YtgdbbaggkoillaaM12
import Derived.Test.YtgdbbaggkoillaaM11
import Derived.Test.YtgdbbaggkoillaaM8
import Derived.Test.YtgdbbaggkoillaaM6
import Derived.Test.YtgdbbaggkoillaaM10
import Derived.Test.YtgdbbaggkoillaaM9
namespace Go.Proofs.Ytgdbbaggkoillaa
open K
set_option maxRecDepth 100000
set_option maxHeartbeats 4000000

theorem vgo_le : ∀ (l : List UInt8) (i m : Nat), (vgo l i m).2.1 ≤ i + l.length
  | [], i, m => by unfold vgo; split <;> simp
  | c :: l, i, m => by
    rw [vgo]
    have := vgo_le l (i + 1) (m + c.toNat % 128 * 128 ^ i)
    split
    · simp
    · split
      · rw [List.length_cons]; omega
      · split
        · simp
        · rw [List.length_cons]; simp only; omega
theorem vtake_le (b : List UInt8) : (vtake b).2.1 ≤ b.length := by have := vgo_le b 0 0; unfold vtake; omega
theorem numT_le (b : List UInt8) : (numT b).2.1.length ≤ b.length := by unfold numT; simp only; rw [List.length_drop]; omega
theorem wi64m (n : Nat) : IntKind.i64.wrap (min (n : Int) 1048577) = ((min n 1048577 : Nat) : Int) := by
  have : min (n : Int) 1048577 = ((min n 1048577 : Nat) : Int) := by omega
  rw [this]; exact wi (by omega) (by omega)
theorem c_fNum {w0 w : World} {L : List It} (mm0 : Mem w0 No w L) (b : List UInt8) (hl : b.length ≤ 4611686018427387904) (v : Value) (hs : Sl w0 v b) : Cl Try.prog 87 #[v] w (fun r w' => ∃ a' c', r = .tuple #[.int .i64 ((numT b).1 : Nat), .slice a' (numT b).2.1.length c', .bool (numT b).2.2] ∧ Sl w0 (.slice a' (numT b).2.1.length c') (numT b).2.1 ∧ Chg No w w') := by
  obtain ⟨a, c, rfl, hcc, H⟩ := hs
  have hv := vtake_le b
  refine f_enter (args := [_]) Try.func87 rfl rfl ?_
  have mm := Mem.nil No w
  refine c_sreg rfl ?_
  refine s1 (r_asi rfl) ?_
  refine s1 (r_ass rfl) ?_
  refine s1 (r_asb rfl) ?_
  refine wn ?_
  refine c_sreg rfl ?_
  refine s1 (r_mvs rfl) ?_
  refine so (o_c1 rfl (c_vtake b hl _ _ ⟨a, c, rfl, hcc, mm0.ro H⟩) ?_)
  rintro _ w2 ⟨rfl, hc⟩
  have mm := mm.frame hc
  refine s1 (r_mvu rfl) ?_
  refine s1 (r_exti rfl rfl) ?_
  refine s1 (r_exti rfl rfl) ?_
  refine s1 (r_exti rfl rfl) ?_
  refine s1 (r_asi rfl) ?_
  refine s1 (r_asi rfl) ?_
  refine s1 (r_asi rfl) ?_
  refine wn ?_
  refine c_sdraw2 mixed [(0, some 0), (1, some 0), (2, some 0), (3, some 0), (4, some 0), (5, some 0), (6, some 0), (7, some 0), (8, some 0), (9, some 0), (10, some 0)] [0, 0, 0, 0, 0, 0, 0, 0, 0, 0, 0] (Sof mm) (Sof mm) (fun _ h => h) (by kernel_rfl) rfl rfl (by kernel_rfl) (fun w3 hc => ?_)
  have mm := mm.frame hc
  refine q01 rfl (fun w => r_mvi rfl) ?_
  refine q01 rfl (fun w => r_min2 rfl rfl) ?_
  refine q01 rfl (fun w => r_cv rfl (wi64m _)) ?_
  refine q01 rfl (fun w => r_mvs rfl) ?_
  refine q01 rfl (fun w => r_mvi rfl) ?_
  refine q01 rfl (fun w => r_sll rfl rfl (by omega) (by omega)) ?_
  refine q01 rfl (fun w => r_mvi rfl) ?_
  refine q01 rfl (fun w => r_eq rfl rfl) ?_
  refine q01 rfl (fun w => r_asi rfl) ?_
  refine q01 rfl (fun w => r_ass rfl) ?_
  refine q01 rfl (fun w => r_asb rfl) ?_
  refine qn ?_
  obtain ⟨a1, c1, hv1, hcc1, H1⟩ := Sl.drop H hcc _ hv
  have hv1 : Value.slice (slA a c (vtake b).2.1 1) (b.length - (vtake b).2.1) (c - (vtake b).2.1) = .slice a1 (numT b).2.1.length c1 := hv1
  exact c_ret (ret3 rfl rfl hv1 rfl ⟨a1, c1, rfl, ⟨a1, c1, rfl, hcc1, H1⟩, mm.chg⟩)

theorem clkW_to {c : Clk} (h : ClkW c) (i : Nat) (hi : i < 5) : i64 (c.get i) :=
  match i, hi with
  | 0, _ => h.1
  | 1, _ => h.2.1
  | 2, _ => h.2.2.1
  | 3, _ => h.2.2.2.1
  | 4, _ => h.2.2.2.2
theorem clkTT_w (b : List UInt8) : ∀ i, i ≤ 5 → ClkW (clkTT b i).1 ∧ (clkTT b i).2.1.length ≤ b.length
  | 0, _ => ⟨clk0_w, Nat.le_refl _⟩
  | i + 1, hi => by
    obtain ⟨h1, h2⟩ := clkTT_w b i (by omega)
    have h3 := numT_le (clkTT b i).2.1
    rw [clkTT]
    refine ⟨clkW_of fun j hj => ?_, by simp only; omega⟩
    have h4 := clkW_to h1 j hj
    have h5 : (numT (clkTT b i).2.1).1 ≤ 1048577 := by unfold numT; simp only; omega
    show i64 (((clkTT b i).1.set i ((numT (clkTT b i).2.1).1 : Nat)).get j)
    rw [Clk.get_set _ _ _ (by omega) hj]
    split
    · unfold i64; omega
    · exact h4
theorem clkTT_s (b : List UInt8) (i : Nat) : clkTT b (i + 1) = ((clkTT b i).1.set i (numT (clkTT b i).2.1).1, (numT (clkTT b i).2.1).2.1, (clkTT b i).2.2 && (numT (clkTT b i).2.1).2.2) := rfl
theorem evT_none {b : List UInt8} {i : Nat} (h : evT b i = none) : ∀ n, i ≤ n → evT b n = none := by
  intro n hn
  induction n with
  | zero => have : i = 0 := by omega
            subst this; exact h
  | succ n ih =>
    rcases Nat.lt_or_ge n i with hlt | hge
    · have : i = n + 1 := by omega
      subst this; exact h
    · rw [evT, ih hge]; rfl
theorem byteI (c : UInt8) : IntKind.i64.wrap ((c.toNat : Nat) : Int) = ((c.toNat : Nat) : Int) := by have := c.toNat_lt; exact wi (by omega) (by omega)
theorem K.Mem.castF {w0 w : World} {F0 : Nat → Prop} {I J : It} {b : Nat} {cs cs' ds ds' : List Value} {T T' : TypeId} {sz n n' c : Nat} {a : Option Addr} (h : Mem w0 F0 w [I, bk b cs T, J, own T' sz a n c ds]) (hc : cs = cs') (hn : n = n') (hd : ds = ds') : Mem w0 F0 w [I, bk b cs' T, own T' sz a n' c ds'] := by subst hc; subst hn; subst hd; exact h.pk [0, 1, 3] (by decide)
theorem K.Mem.casta {w0 w : World} {F0 : Nat → Prop} {I : It} {b : Nat} {cs cs' : List Value} {T : TypeId} (h : Mem w0 F0 w [I, bk b cs T]) (hc : cs = cs') : Mem w0 F0 w [I, bk b cs' T] := by subst hc; exact h
theorem c_fBody (b : List UInt8) (hl : b.length ≤ 4611686018427387904) (v : Value) (w : World) (hs : Sl w v b) : Cl Try.prog 65 #[v] w
    (fun r w' => ∃ f a' c', r = .tuple #[.agg (recV f a' c').toArray, .bool (bodyT b).isSome] ∧ (∀ x, bodyT b = some x → f = x) ∧ Chg No w w' ∧ NewR w w' a' c' f.es) := by
  obtain ⟨a, c, rfl, hcc, H⟩ := hs
  refine f_enter (args := [_]) Try.func65 rfl rfl ?_
  have mm := Mem.nil No w
  refine c_sreg rfl ?_
  refine so (o_al mm fun b2 w2 mm => ?_)
  refine s1 (r_asb rfl) ?_
  refine wn ?_
  refine c_seq ?_
  refine c_sreg rfl ?_
  refine s1 (r_mvs rfl) ?_
  refine s1 (r_len rfl) ?_
  refine s1 (r_lt rfl rfl) ?_
  refine wn ?_
  refine c_cond rfl (fun h => ?_) (fun h => (c_skip (t_n ?_)))
  · refine c_sreg rfl ?_
    refine s1 (r_bd bN rfl) ?_
    refine ss (o_sta mm 0 rfl rfl rfl rfl rfl (Nat.le_of_ble_eq_true rfl) fun w3 mm => ?_)
    refine s1 (r_asb rfl) ?_
    refine wn ?_
    have hb : bodyT b = none := by
      have h : b.length < 3 := by simp at h; omega
      unfold bodyT bodyS
      rw [if_pos h]; rfl
    rw [hb]
    have mm := mm.nilrow (T := 25) (sz := 12)
    exact c_ret (retc2 rfl rfl (mm.b 0 rfl) rfl rfl ⟨rec0, none, 0, rfl, (fun x hx => nomatch hx), mm.chg, mm.isNew 1 rfl⟩)
  have hlen : 3 ≤ b.length := by simp at h; omega
  clear h
  have hB0 := nth_u8s b 0 (by omega)
  have hB1 := nth_u8s b 1 (by omega)
  have hT : bodyT b = (if fHas ((b.getD 0 0).toNat : Int) = 2 then some (⟨((b.getD 0 0).toNat : Int), ((b.getD 1 0).toNat : Int), (numT (b.drop 2)).1, clk0, []⟩, (numT (b.drop 2)).2.1, (numT (b.drop 2)).2.2)
      else if fHas ((b.getD 0 0).toNat : Int) = 3 then some (⟨((b.getD 0 0).toNat : Int), ((b.getD 1 0).toNat : Int), 0, (clkTT (b.drop 2) 5).1, []⟩, (clkTT (b.drop 2) 5).2.1, (clkTT (b.drop 2) 5).2.2)
      else if fHas ((b.getD 0 0).toNat : Int) = 1 then (evT ((b.drop 2).drop 1) ((b.drop 2).getD 0 0).toNat).map fun q => (⟨((b.getD 0 0).toNat : Int), ((b.getD 1 0).toNat : Int), 0, clk0, q.1⟩, q.2, true)
      else some (⟨((b.getD 0 0).toNat : Int), ((b.getD 1 0).toNat : Int), 0, clk0, []⟩, b.drop 2, true)).bind bodyQ := by
    unfold bodyT bodyS
    rw [if_neg (by omega)]
  have hk := byteI (b.getD 0 0)
  have hr := byteI (b.getD 1 0)
  refine c_sdraw2 mixed [(0, some 0), (1, some 0), (4, some 0), (5, some 0), (2, some 2), (3, some 0), (6, some 2), (7, some 2), (8, some 0), (9, none), (10, none), (11, some 0)] [0, 0, 0, 0, 0, 0, 2, 2, 0, 2, 0, 0] (Sof (mm.pk [0] (by decide))) (Sof (mm.pk [0] (by decide))) (fun _ h => h) (by kernel_rfl) rfl rfl (by kernel_rfl) (fun w4 hc => ?_)
  have mm := mm.frame hc
  refine q01 rfl (fun w => r_mvs rfl) ?_
  refine q01 rfl (fun w => r_ix rfl rfl (by omega) (by omega) (H.some hB0)) ?_
  refine q01 rfl (fun w => r_mvs rfl) ?_
  refine q01 rfl (fun w => r_ix rfl rfl (by omega) (by omega) (H.some hB1)) ?_
  refine qA1 rfl (fun w m => r_ldc rfl (m.ro H) hB0) (mm.pk [0] (by decide)) ?_
  refine q01 rfl (fun w => r_cv rfl hk) ?_
  refine qA1 rfl (fun w m => r_ldc rfl (m.ro H) hB1) (mm.pk [0] (by decide)) ?_
  refine qA1 rfl (fun w m => r_cv rfl hr) (mm.pk [0] (by decide)) ?_
  refine q01 rfl (fun w => r_bd (bi rfl (bi rfl bN)) rfl) ?_
  refine qo rfl (o_al mm fun b5 w5 mm => ⟨(mm.pk [0] (by decide)), ?_⟩)
  refine qs rfl (o_sta mm 1 rfl rfl rfl rfl rfl (Nat.le_of_ble_eq_true rfl) fun w6 mm => ⟨trivial, ?_⟩)
  refine q01 rfl (fun w => r_asb rfl) ?_
  refine qn ?_
  have mm : Mem w No _ [bk b2 (recV rec0 none 0) 47, bk b5 (recV ⟨((b.getD 0 0).toNat : Int), ((b.getD 1 0).toNat : Int), 0, clk0, []⟩ none 0) 47] := mm
  generalize (((b.getD 0 0).toNat : Nat) : Int) = k at *
  generalize (((b.getD 1 0).toNat : Nat) : Int) = r at *
  refine c_sreg rfl ?_
  refine s1 (r_mvs rfl) ?_
  refine s1 (r_sll rfl rfl (by omega) (by omega)) ?_
  refine s1 (r_ass rfl) ?_
  refine wn ?_
  obtain ⟨a1, c1, hv1, hcc1, H1⟩ := Sl.drop H hcc 2 (by omega)
  have hl2 : 1 ≤ (b.drop 2).length ∧ (b.drop 2).length ≤ 4611686018427387904 := by rw [List.length_drop]; omega
  generalize b.drop 2 = s at *
  have hs2 : Sl w (.slice a1 s.length c1) s := ⟨a1, c1, rfl, hcc1, H1⟩
  refine c_seq ?_
  refine c_sreg rfl ?_
  refine s1 (r_fa rfl) ?_
  refine s1 (r_ld rfl (mm.b 1 rfl) rfl) ?_
  refine so (o_c1 rfl (c_has k _) ?_)
  rintro _ w7 ⟨rfl, hc⟩
  have mm := mm.frame hc
  refine wn ?_
  refine c_mid0 (fun e w' => ∃ f ao co v' s' ok, e 0 = v' ∧ Sl w v' s' ∧ e 2 = .pointer (some ⟨b2, 0, none⟩) ∧ e 4 = .pointer (some ⟨b5, 0, none⟩) ∧ e 5 = .bool ok ∧ bodyT b = bodyQ (f, s', ok) ∧ Mem w No w' [bk b2 (recV rec0 none 0) 47, bk b5 (recV f ao co) 47, own 25 12 ao f.es.length co (evsC f.es)] ∧ ClkW f.c) ?_ ?_
  · refine c_block ?_
    refine c_sreg rfl ?_
    refine s1 (r_eq rfl rfl) ?_
    refine s1 (r_asb rfl) ?_
    refine wn ?_
    refine c_cond rfl (fun h => ?_) (fun h => ?_)
    · have h2 : fHas k = 2 := by simpa using h
      rw [if_pos h2] at hT
      refine c_region rfl ?_
      refine s1 (r_mvs hv1) ?_
      refine so (o_c1 rfl (c_fNum mm s hl2.2 _ hs2) ?_)
      rintro _ w8 ⟨a8, c8, rfl, hs3, hc⟩
      have mm := mm.frame hc
      refine s1 (r_mvu rfl) ?_
      refine s1 (r_exti rfl rfl) ?_
      refine s1 (r_exts rfl rfl) ?_
      refine s1 (r_extb rfl rfl) ?_
      refine s1 (r_fa rfl) ?_
      refine ss (o_st mm 1 rfl rfl rfl rfl rfl fun w9 mm => ?_)
      refine s1 (r_ass rfl) ?_
      refine s1 (r_asb rfl) ?_
      refine wn (b_n (t_n ?_))
      exact ⟨_, none, 0, _, _, _, rfl, hs3, rfl, rfl, rfl, hT, mm.nilrow, clk0_w⟩
    have h2 : ¬ fHas k = 2 := by simpa using h
    rw [if_neg h2] at hT
    clear h
    refine c_sreg rfl ?_
    refine s1 (r_eq rfl rfl) ?_
    refine s1 (r_asb rfl) ?_
    refine wn ?_
    refine c_cond rfl (fun h => ?_) (fun h => ?_)
    · have h3 : fHas k = 3 := by simpa using h
      rw [if_pos h3] at hT
      clear h
      refine c_sreg rfl ?_
      refine s1 (r_mvi rfl) ?_
      refine wn ?_
      refine c_block ?_
      refine c_loop (fun kk e w' => ∃ (i : Nat) (v' : Value) (q : Clk × List UInt8 × Bool), kk + i = 5 ∧ clkTT s i = q ∧ e 0 = v' ∧ Sl w v' q.2.1 ∧ e 2 = .pointer (some ⟨b2, 0, none⟩) ∧ e 4 = .pointer (some ⟨b5, 0, none⟩) ∧ e 5 = .bool q.2.2 ∧ e 41 = .int .i64 (i : Nat) ∧ Mem w No w' [bk b2 (recV rec0 none 0) 47, bk b5 (recV ⟨k, r, 0, q.1, []⟩ none 0) 47]) 5 ?_ ?_
      · exact ⟨0, _, (clk0, s, true), rfl, rfl, hv1, hs2, rfl, rfl, rfl, rfl, mm⟩
      clear mm
      clear hv1
      rintro kk e w9 ⟨i, v1, ⟨qc, ql, qb⟩, hki, hq, h0, hs3, h2', h4, h5, h41, mm⟩
      refine c_sreg rfl ?_
      refine s1 (r_lt h41 rfl) ?_
      refine wn ?_
      refine c_seq ?_
      refine c_cond rfl (fun h => (c_skip (t_n ?_))) (fun h => (c_exit (t_x (t_x (b_x (b_n (t_n ?_)))))))
      · have hi : i < 5 := by simp at h; omega
        clear h
        have hw := (clkTT_w s i (by omega)).2
        rw [hq] at hw
        have hw : ql.length ≤ s.length := hw
        have hnx : clkTT s (i + 1) = (qc.set i (numT ql).1, (numT ql).2.1, qb && (numT ql).2.2) := by rw [clkTT_s, hq]
        obtain ⟨a3, c3, rfl, hcc3, H3⟩ := hs3
        refine c_seq ?_
        refine c_block ?_
        refine c_sreg rfl ?_
        refine s1 (r_mvi h41) ?_
        refine s1 (r_asi rfl) ?_
        refine wn ?_
        refine c_sreg rfl ?_
        refine s1 (r_asb rfl) ?_
        refine wn ?_
        refine c_sreg rfl ?_
        refine s1 (r_mvi rfl) ?_
        refine s1 (r_mvs h0) ?_
        refine so (o_c1 rfl (c_fNum mm ql (by omega) _ ⟨a3, c3, rfl, hcc3, H3⟩) ?_)
        rintro _ w10 ⟨a10, c10, rfl, hs4, hc⟩
        have mm := mm.frame hc
        refine s1 (r_mvu rfl) ?_
        refine s1 (r_exti rfl rfl) ?_
        refine s1 (r_exts rfl rfl) ?_
        refine s1 (r_extb rfl rfl) ?_
        refine s1 (r_fa h4) ?_
        refine s1 (r_ixa rfl rfl (by omega) (by omega)) ?_
        refine ss (o_st mm 1 rfl rfl rfl rfl (blt_rvi _ _ _ i hi) fun w11 mm => ?_)
        refine s1 (r_ass rfl) ?_
        refine s1 (r_asb rfl) ?_
        refine wn ?_
        have mm := mm.casta (setN_rvi _ _ _ i hi _)
        refine c_region rfl ?_
        refine s1 (r_mvb h5) ?_
        refine s1 (r_mvb rfl) ?_
        refine sT rfl rfl (fun h => r_mvb rfl) ?_
        refine s1 (r_and rfl rfl) ?_
        refine s1 (r_asb rfl) ?_
        refine wn (b_n (t_n ?_))
        refine c_region rfl ?_
        refine s1 (r_add h41 rfl (wi (by omega) (by omega))) ?_
        refine s1 (r_mvi rfl) ?_
        refine wn (t_n ?_)
        exact ⟨kk - 1, by omega, i + 1, _, _, by omega, hnx, rfl, hs4, h2', h4, rfl, rfl, mm⟩
      have hi : i = 5 := by simp at h; omega
      subst hi
      have hw := (clkTT_w s 5 (Nat.le_refl _)).1
      rw [hq] at hT hw
      exact ⟨_, none, 0, _, _, _, h0, hs3, h2', h4, h5, hT, mm.nilrow, hw⟩
    have h3 : ¬ fHas k = 3 := by simpa using h
    rw [if_neg h3] at hT
    clear h
    refine c_sreg rfl ?_
    refine s1 (r_eq rfl rfl) ?_
    refine s1 (r_asb rfl) ?_
    refine wn ?_
    refine c_cond rfl (fun h => ?_) (fun h => (c_skip (b_n (t_n ?_))))
    · have h1 : fHas k = 1 := by simpa using h
      rw [if_pos h1] at hT
      clear h
      have hS0 := nth_u8s s 0 (by omega)
      refine c_sreg rfl ?_
      refine s1 (r_mvs hv1) ?_
      refine s1 (r_ix rfl rfl (by omega) (by omega) (H1.some hS0)) ?_
      refine s1 (r_ldc rfl (mm.ro H1) hS0) ?_
      refine s1 (r_cv rfl (byteI _)) ?_
      refine s1 (r_asi rfl) ?_
      refine wn ?_
      refine c_sreg rfl ?_
      refine s1 (r_mvs hv1) ?_
      refine s1 (r_sll rfl rfl (by omega) (by omega)) ?_
      refine s1 (r_ass rfl) ?_
      refine wn ?_
      obtain ⟨a2, c2, hv3, hcc2, H2⟩ := Sl.drop H1 hcc1 1 (by omega)
      have hl3 : (s.drop 1).length ≤ 4611686018427387904 := by rw [List.length_drop]; omega
      have hn := (s.getD 0 0).toNat_lt
      generalize s.drop 1 = t at *
      generalize (s.getD 0 0).toNat = n at *
      have hs3 : Sl w (.slice a2 t.length c2) t := ⟨a2, c2, rfl, hcc2, H2⟩
      refine c_sreg rfl ?_
      refine s1 (r_mvi rfl) ?_
      refine s1 (r_mvi rfl) ?_
      refine wn ?_
      refine c_block ?_
      refine c_loop (fun kk e w' => ∃ (i : Nat) (l : List Ev) (s' : List UInt8) (v' : Value) (ao : Option Addr) (co : Nat), kk + i = n ∧ evT t i = some (l, s') ∧ s'.length ≤ t.length ∧ e 0 = v' ∧ Sl w v' s' ∧ e 2 = .pointer (some ⟨b2, 0, none⟩) ∧ e 4 = .pointer (some ⟨b5, 0, none⟩) ∧ e 5 = .bool true ∧ e 66 = .int .i64 (n : Nat) ∧ e 67 = .int .i64 (i : Nat) ∧ Mem w No w' [bk b2 (recV rec0 none 0) 47, bk b5 (recV ⟨k, r, 0, clk0, l⟩ ao co) 47, own 25 12 ao l.length co (evsC l)]) n ?_ ?_
      · exact ⟨0, [], t, _, none, 0, rfl, rfl, Nat.le_refl _, hv3, hs3, rfl, rfl, rfl, rfl, rfl, mm.nilrow⟩
      clear mm
      rintro kk e w9 ⟨i, l, s', v1, ao, co, hki, hev, hsl, h0, hs4, h2', h4, h5, h66, h67, mm⟩
      refine c_sreg rfl ?_
      refine s1 (r_lt h67 h66) ?_
      refine wn ?_
      refine c_seq ?_
      refine c_cond rfl (fun h => (c_skip (t_n ?_))) (fun h => (c_exit (t_x (t_x (b_x (b_n (t_n ?_)))))))
      · have hi : i < n := by simp at h; omega
        clear h
        obtain ⟨a3, c3, rfl, hcc3, H3⟩ := hs4
        obtain ⟨hll, _⟩ := evT_ok i hev
        refine c_seq ?_
        refine c_block ?_
        refine c_sreg rfl ?_
        refine s1 (r_mvs h0) ?_
        refine so (o_c1 rfl (c_eTake s' (by omega) _ _ ⟨a3, c3, rfl, hcc3, mm.ro H3⟩) ?_)
        rintro _ w12 ⟨rfl, hc⟩
        have mm := mm.frame hc
        refine s1 (r_mvu rfl) ?_
        refine s1 (r_extg rfl rfl) ?_
        refine s1 (r_exti rfl rfl) ?_
        refine s1 (r_exti rfl rfl) ?_
        refine so (o_al mm fun b13 w13 mm => ?_)
        refine ss (o_sta mm 3 rfl rfl rfl rfl rfl (Nat.le_of_ble_eq_true rfl) fun w14 mm => ?_)
        refine s1 (r_asi rfl) ?_
        refine s1 (r_asi rfl) ?_
        refine wn ?_
        refine c_seq ?_
        refine c_sreg rfl ?_
        refine s1 (r_mvi rfl) ?_
        refine s1 (r_ne rfl rfl) ?_
        refine wn ?_
        refine c_cond rfl (fun h => ?_) (fun h => (c_skip (t_n ?_)))
        · have hne : (takeE s').2.2 ≠ 0 := by simpa using h
          refine c_sreg rfl ?_
          refine s1 (r_bd bN rfl) ?_
          refine ss (o_sta mm 0 rfl h2' rfl rfl rfl (Nat.le_of_ble_eq_true rfl) fun w15 mm => ?_)
          refine s1 (r_asb rfl) ?_
          refine wn ?_
          have hnone : evT t (i + 1) = none := by rw [evT, hev]; show evT1 (l, s') = none; unfold evT1; exact if_neg hne
          have hb : bodyT b = none := by rw [hT, evT_none hnone n (by omega)]; rfl
          rw [hb]
          have mm := mm.nilrow (T := 25) (sz := 12)
          exact c_ret (retc2 rfl h2' (mm.b 0 rfl) rfl rfl ⟨rec0, none, 0, rfl, (fun x hx => nomatch hx), mm.chg, mm.isNew 4 rfl⟩)
        have he : (takeE s').2.2 = 0 := by simpa using h
        clear h
        obtain ⟨j, hj, hjl⟩ : ∃ j : Nat, (takeE s').2.1 = j ∧ j ≤ s'.length := by
          rcases takeE_any s' with ⟨_, _, q3, q4, _⟩ | ⟨q, _⟩
          · exact ⟨_, q3, q4⟩
          · exact absurd he q
        have hjn : (takeE s').2.1.toNat = j := by rw [hj]; rfl
        have hnx : evT t (i + 1) = some (l ++ [(takeE s').1], s'.drop j) := by
          rw [evT, hev]
          show evT1 (l, s') = _
          unfold evT1
          rw [if_pos he, hjn]
        rw [hj]
        have mm := mm.pk [0, 1, 3, 2] (by decide)
        refine c_draw2 mixed [(0, some 0), (5, some 0), (6, some 0), (7, some 0), (1, some 2), (2, some 2), (3, none), (4, none), (8, some 0), (9, none), (10, some 0)] [0, 0, 2, 2, 0, 0, 0, 0, 0, 0, 0] (Sof (mm.pk [0, 1, 2] (by decide))) (Sof (mm.pk [0, 1, 2] (by decide))) (fun _ h => h) (by kernel_rfl) rfl rfl (by kernel_rfl) (fun w16 hc => ?_)
        have mm := mm.frame hc
        refine q01 rfl (fun w => r_fa h4) ?_
        refine q01 rfl (fun w => r_mvs h0) ?_
        refine q01 rfl (fun w => r_mvi rfl) ?_
        refine q01 rfl (fun w => r_sll rfl rfl (by omega) (by omega)) ?_
        refine qA1 rfl (fun w m => r_ld rfl (m.b 1 rfl) rfl) (mm.pk [0, 1, 2] (by decide)) ?_
        refine qA1 rfl (fun w m => r_lda rfl (m.b 2 rfl) rfl) (mm.pk [0, 1, 2] (by decide)) ?_
        refine qo rfl (o_bg mm (bg rfl bN) rfl rfl (by decide) (by decide) (by decide) fun a17 c17 w17 mm => ⟨(mm.pk [0, 1, 2] (by decide)), ?_⟩)
        refine qo rfl (o_ap mm 3 rfl rfl rfl (src_own mm 4 rfl rfl) (by omega) (by unfold maxLen; omega) fun a18 c18 w18 mm => ⟨trivial, ?_⟩)
        refine q01 rfl (fun w => r_fa h4) ?_
        refine qs rfl (o_st mm 1 rfl rfl rfl rfl rfl fun w19 mm => ⟨trivial, ?_⟩)
        refine q01 rfl (fun w => r_ass rfl) ?_
        refine qn (b_n (t_n ?_))
        have hsn : evsC (l ++ [(takeE s').1]) = evsC l ++ evC (takeE s').1 := by rw [evsC_append]; simp [evsC]
        have hle : (l ++ [(takeE s').1]).length = l.length + 1 := by rw [List.length_append]; rfl
        have mm := (mm.pk [0, 1, 2, 3] (by decide)).castF (cs' := recV ⟨k, r, 0, clk0, l ++ [(takeE s').1]⟩ _ _) (n' := (l ++ [(takeE s').1]).length) (ds' := evsC (l ++ [(takeE s').1])) (by simp only [recV, hle]; rfl) hle.symm (by rw [hsn]; rfl)
        have hs5 := Sl.drop H3 hcc3 j hjl
        refine c_region rfl ?_
        refine s1 (r_add h67 rfl (wi (by omega) (by omega))) ?_
        refine s1 (r_mvi rfl) ?_
        refine wn (t_n ?_)
        exact ⟨kk - 1, by omega, i + 1, _, _, _, _, _, by omega, hnx, by rw [List.length_drop]; omega, rfl, hs5, h2', h4, h5, h66, rfl, mm⟩
      have hi : i = n := by simp at h; omega
      subst hi
      rw [hev] at hT
      exact ⟨_, ao, co, _, _, _, h0, hs4, h2', h4, h5, hT, mm, clk0_w⟩
    · have h1 : ¬ fHas k = 1 := by simpa using h
      rw [if_neg h1] at hT
      exact ⟨_, none, 0, _, _, _, hv1, hs2, rfl, rfl, rfl, hT, mm.nilrow, clk0_w⟩
  clear mm
  rintro e w9 ⟨f, ao, co, v', s', ok, h0, hs3, h2', h4, h5, hT, mm, hw⟩
  obtain ⟨a3, c3, rfl, hcc3, H3⟩ := hs3
  refine c_sdraw2 mixed [(1, some 0), (2, some 0), (3, some 0), (4, some 0), (5, some 0), (6, some 0), (7, some 0), (0, some 2), (8, some 2), (9, none), (10, some 2), (11, none), (12, some 0)] [0, 0, 0, 0, 0, 0, 0, 0, 2, 2, 2, 2, 0] (Sof (mm.pk [1, 2] (by decide))) (Sof (mm.pk [1, 2] (by decide))) (fun _ h => h) (by kernel_rfl) rfl rfl (by kernel_rfl) (fun w20 hc => ?_)
  have mm := mm.frame hc
  refine q01 rfl (fun w => r_mvb h5) ?_
  refine q01 rfl (fun w => r_mvb rfl) ?_
  refine q0T rfl rfl rfl (fun h w => r_mvs h0) ?_
  refine q0T rfl rfl rfl (fun h w => r_len (sel_t h :)) ?_
  refine q0T rfl rfl rfl (fun h w => r_eq (sel_t h :) rfl) ?_
  refine q01 rfl (fun w => r_and rfl rfl) ?_
  refine q01 rfl (fun w => r_mvb rfl) ?_
  refine qA1 rfl (fun w m => r_lda h4 (m.b 0 rfl) rfl) (mm.pk [1, 2] (by decide)) ?_
  refine qAT rfl rfl rfl (fun h w m => r_lda h4 (m.b 0 rfl) rfl) (mm.pk [1, 2] (by decide)) ?_
  refine qTw (I := Sof mm) rfl rfl rfl mm (fun h => o_c1 (sel_t h :) (c_frMay f _ (mm.c 2 rfl) hw) (fun _ _ hh => ⟨hh.1, mm.frame hh.2⟩)) (fun w21 mm => ⟨(mm.pk [1, 2] (by decide)), ?_⟩)
  refine qA1 rfl (fun w m => r_and rfl rfl) (mm.pk [1, 2] (by decide)) ?_
  refine qs rfl (o_sta mm 0 rfl h2' rfl rfl rfl (Nat.le_of_ble_eq_true rfl) fun w22 mm => ⟨(mm.pk [1, 2] (by decide)), ?_⟩)
  refine q01 rfl (fun w => r_asb rfl) ?_
  refine qn ?_
  refine c_ret (retc2 rfl h2' (mm.b 0 rfl) rfl rfl ⟨f, ao, co, congrArg (fun z => Value.tuple #[.agg (recV f ao co).toArray, .bool z]) (?_ : (_ : Bool) = _), ?_, mm.chg, mm.isNew 2 rfl⟩)
  · rw [hT]
    unfold bodyQ
    clear mm hc
    cases ok <;> by_cases hz : s'.length = 0 <;> cases hm : frMay f <;> simp [hz, hm] <;> trace_state
  · intro x hx
    rw [hT] at hx
    unfold bodyQ at hx
    split at hx
    · cases hx; rfl
    · cases hx
theorem c_fTake (b : List UInt8) (hb : b.length ≤ 1099511627776) (v : Value) (w : World) (hs : Sl w v b) : Cl Try.prog 34 #[v] w
    (fun r w' => ∃ a' c', r = .tuple #[.agg (recV (takeF b).1 a' c').toArray, .int .i64 (takeF b).2] ∧ Chg No w w' ∧ NewR w w' a' c' (takeF b).1.es) := by
  have hs' := hs
  obtain ⟨a, c, rfl, hcc, H⟩ := hs
  refine f_enter (args := [_]) Try.func34 rfl rfl ?_
  have mm := Mem.nil No w
  refine c_sreg rfl ?_
  refine so (o_al mm fun b2 w2 mm => ?_)
  refine s1 (r_asi rfl) ?_
  refine wn ?_
  refine c_seq ?_
  refine c_sreg rfl ?_
  refine s1 (r_mvs rfl) ?_
  refine s1 (r_len rfl) ?_
  refine s1 (r_gt rfl rfl) ?_
  refine wn ?_
  refine c_cond rfl (fun h => ?_) (fun h => (c_skip (t_n ?_)))
  · have h : 2048 < b.length := by simp at h; omega
    refine c_sreg rfl ?_
    refine s1 (r_bd bN rfl) ?_
    refine ss (o_sta mm 0 rfl rfl rfl rfl rfl (Nat.le_of_ble_eq_true rfl) fun w3 mm => ?_)
    refine s1 (r_asi rfl) ?_
    refine wn ?_
    have e1 : takeF b = (rec0, 5) := by unfold takeF; rw [if_pos h]
    rw [e1]
    have mm := mm.nilrow (T := 25) (sz := 12)
    exact c_ret (retc2 rfl rfl (mm.b 0 rfl) rfl rfl ⟨none, 0, rfl, mm.chg, mm.isNew 1 rfl⟩)
  have hlen : ¬ 2048 < b.length := by simp at h; omega
  clear h
  refine c_sreg rfl ?_
  refine s1 (r_mvs rfl) ?_
  refine so (o_c1 rfl (c_open b hb _ _ ⟨a, c, rfl, hcc, mm.ro H⟩) ?_)
  rintro _ w4 ⟨a4, c4, rfl, hc, hn⟩
  have mm := mm.new hc hn
  refine s1 (r_mvu rfl) ?_
  refine s1 (r_exts rfl rfl) ?_
  refine s1 (r_extb rfl rfl) ?_
  refine s1 (r_ass rfl) ?_
  refine s1 (r_asb rfl) ?_
  refine wn ?_
  refine c_seq ?_
  refine c_sreg rfl ?_
  refine s1 (r_mvb rfl) ?_
  refine s1 (r_not rfl) ?_
  refine wn ?_
  refine c_cond rfl (fun h => ?_) (fun h => (c_skip (t_n ?_)))
  · refine c_sreg rfl ?_
    refine s1 (r_bd bN rfl) ?_
    refine ss (o_sta mm 0 rfl rfl rfl rfl rfl (Nat.le_of_ble_eq_true rfl) fun w5 mm => ?_)
    refine s1 (r_asi rfl) ?_
    refine wn ?_
    have e1 : takeF b = (rec0, 4) := by
      have h : openL b = none := by simpa using h
      unfold takeF
      rw [if_neg hlen, h]
    rw [e1]
    have mm := mm.nilrow (T := 25) (sz := 12)
    exact c_ret (retc2 rfl rfl (mm.b 0 rfl) rfl rfl ⟨none, 0, rfl, mm.chg, mm.isNew 2 rfl⟩)
  obtain ⟨t, ht⟩ : ∃ t, openL b = some t := by
    cases ho : openL b with
    | none => rw [ho] at h; cases h
    | some t => exact ⟨t, rfl⟩
  clear h
  have hov : openV b = t := by unfold openV; rw [ht]; rfl
  rw [hov] at mm
  have htl : t.length ≤ 2048 := by
    have := openL_some ht
    rw [this, sealL_length] at hlen
    omega
  have hvl := vtake_le t
  have hT : takeF b = (if (vtake t).2.2 ≠ 0 ∨ (vtake t).1 ≠ t.length - (vtake t).2.1 then ((rec0, 3) : Rec × Int) else match bodyT (t.drop (vtake t).2.1) with
    | none => (rec0, 3)
    | some f => (f, 0)) := by
    unfold takeF
    rw [if_neg hlen, ht]; rfl
  refine c_sreg rfl ?_
  refine s1 (r_mvs (show _ = Value.slice a4 t.length c4 by rw [← hov]; rfl)) ?_
  refine so (o_c1 rfl (c_vtake t (by omega) _ _ ⟨_, _, rfl, own_le (mm.o 1 rfl), mm.c 1 rfl⟩) ?_)
  rintro _ w6 ⟨rfl, hc⟩
  have mm := mm.frame hc
  refine s1 (r_mvu rfl) ?_
  refine s1 (r_exti rfl rfl) ?_
  refine s1 (r_exti rfl rfl) ?_
  refine s1 (r_exti rfl rfl) ?_
  refine s1 (r_asi rfl) ?_
  refine s1 (r_asi rfl) ?_
  refine s1 (r_asi rfl) ?_
  refine wn ?_
  refine c_seq ?_
  refine c_sreg rfl ?_
  refine s1 (r_mvi rfl) ?_
  refine s1 (r_ne rfl rfl) ?_
  refine s1 (r_mvb rfl) ?_
  refine sF rfl rfl (fun h => r_mvi rfl) ?_
  refine sF rfl rfl (fun h => r_mvs (show _ = Value.slice a4 t.length c4 by rw [← hov]; rfl)) ?_
  refine sF rfl rfl (fun h => r_len (sel_t h :)) ?_
  refine sF rfl rfl (fun h => r_mvi rfl) ?_
  refine sF rfl rfl (fun h => r_sub (sel_t h :) (sel_t h :) (wi (by omega) (by omega))) ?_
  refine sF rfl rfl (fun h => r_cv (sel_t h :) (show IntKind.u64.wrap (((t.length : Nat) : Int) - (((vtake t).2.1 : Nat) : Int)) = ((t.length - (vtake t).2.1 : Nat) : Int) from by rw [wu64 (by omega) (by omega)]; omega)) ?_
  refine sF rfl rfl (fun h => r_ne (sel_t h :) (sel_t h :)) ?_
  refine s1 (r_or rfl rfl) ?_
  refine wn ?_
  refine c_cond rfl (fun h => ?_) (fun h => (c_skip (t_n ?_)))
  · refine c_sreg rfl ?_
    refine s1 (r_bd bN rfl) ?_
    refine ss (o_sta mm 0 rfl rfl rfl rfl rfl (Nat.le_of_ble_eq_true rfl) fun w7 mm => ?_)
    refine s1 (r_asi rfl) ?_
    refine wn ?_
    have e1 : takeF b = (rec0, 3) := by
      rw [hT, if_pos]
      simp at h
      omega
    rw [e1]
    have mm := mm.nilrow (T := 25) (sz := 12)
    exact c_ret (retc2 rfl rfl (mm.b 0 rfl) rfl rfl ⟨none, 0, rfl, mm.chg, mm.isNew 2 rfl⟩)
  rw [if_neg (by simp at h; omega)] at hT
  clear h
  have hs2 := Sl.drop (mm.c 1 rfl) (own_le (mm.o 1 rfl)) (vtake t).2.1 hvl
  refine c_sreg rfl ?_
  refine s1 (r_mvs (show _ = Value.slice a4 t.length c4 by rw [← hov]; rfl)) ?_
  refine s1 (r_mvi rfl) ?_
  refine s1 (r_sll rfl rfl (by omega) (by omega)) ?_
  refine so (o_c1 rfl (c_fBody (t.drop (vtake t).2.1) (by rw [List.length_drop]; omega) _ _ hs2) ?_)
  rintro _ w8 ⟨f, a8, c8, rfl, hf, hc, hn⟩
  have mm := mm.new hc hn
  refine s1 (r_mvu rfl) ?_
  refine s1 (r_extg rfl rfl) ?_
  refine s1 (r_extb rfl rfl) ?_
  refine so (o_al mm fun b9 w9 mm => ?_)
  refine ss (o_sta mm 3 rfl rfl rfl rfl rfl (Nat.le_of_ble_eq_true rfl) fun w10 mm => ?_)
  refine s1 (r_asb rfl) ?_
  refine wn ?_
  refine c_seq ?_
  refine c_sreg rfl ?_
  refine s1 (r_mvb rfl) ?_
  refine s1 (r_not rfl) ?_
  refine wn ?_
  refine c_cond rfl (fun h => ?_) (fun h => (c_skip (t_n ?_)))
  · refine c_sreg rfl ?_
    refine s1 (r_bd bN rfl) ?_
    refine ss (o_sta mm 0 rfl rfl rfl rfl rfl (Nat.le_of_ble_eq_true rfl) fun w11 mm => ?_)
    refine s1 (r_asi rfl) ?_
    refine wn ?_
    have e1 : takeF b = (rec0, 3) := by
      have h : bodyT (t.drop (vtake t).2.1) = none := by simpa using h
      rw [hT, h]
    rw [e1]
    have mm := mm.nilrow (T := 25) (sz := 12)
    exact c_ret (retc2 rfl rfl (mm.b 0 rfl) rfl rfl ⟨none, 0, rfl, mm.chg, mm.isNew 4 rfl⟩)
  obtain ⟨x, hx⟩ : ∃ x, bodyT (t.drop (vtake t).2.1) = some x := by
    cases ho : bodyT (t.drop (vtake t).2.1) with
    | none => rw [ho] at h; cases h
    | some x => exact ⟨x, rfl⟩
  have e1 : takeF b = (x, 0) := by rw [hT, hx]
  rw [e1]
  obtain rfl := hf x hx
  refine c_sreg rfl ?_
  refine s1 (r_lda rfl (mm.b 3 rfl) rfl) ?_
  refine ss (o_sta mm 0 rfl rfl rfl rfl rfl (Nat.le_of_ble_eq_true rfl) fun w12 mm => ?_)
  refine s1 (r_asi rfl) ?_
  refine wn ?_
  exact c_ret (retc2 rfl rfl (mm.b 0 rfl) rfl rfl ⟨_, _, rfl, mm.chg, mm.isNew 2 rfl⟩)
end Go.Proofs.Ytgdbbaggkoillaa
/- kithref02.Open, kithref07.in, clock, events: walks. -/
namespace Go.Proofs.Ytgdbbaggkoillaa
open K
set_option maxRecDepth 100000
set_option maxHeartbeats 4000000

theorem openL_is (b : List UInt8) (h4 : 4 ≤ b.length) : openL b = if sealL (b.take (b.length - 4)) = b then some (b.take (b.length - 4)) else none := by
  unfold openL
  rw [if_neg (by omega)]
  have h1 : (sealL (b.take (b.length - 4)) = b) ↔ (four (crcSum (b.take (b.length - 4))) = b.drop (b.length - 4)) := by
    constructor
    · intro h
      conv => rhs; rw [← h]
      unfold sealL
      rw [List.drop_left' (by rw [List.length_take, List.length_append, four_length, List.length_take]; omega)]
    · intro h
      unfold sealL
      rw [h, List.take_append_drop]
  by_cases h : four (crcSum (b.take (b.length - 4))) = b.drop (b.length - 4)
  · rw [if_pos h, if_pos (h1.2 h)]
  · rw [if_neg h, if_neg (fun hh => h (h1.1 hh))]
theorem c_open02 (b : List UInt8) (hb : b.length ≤ 1000000000000) (v : Value) (w : World) (hs : Sl w v b) : Cl Try.prog 66 #[v] w (fun v w' => ∃ a c, v = .tuple #[.slice a (openV b).length c, .bool (openL b).isSome] ∧ Chg No w w' ∧ New w w' (own 5 1 a (openV b).length c (u8s (openV b)))) := by
  obtain ⟨a, c, rfl, hcc, H⟩ := hs
  refine f_enter (args := [_]) Try.func66 rfl rfl ?_
  have mm := Mem.nil No w
  refine c_sreg rfl ?_
  refine s1 (r_ass rfl) ?_
  refine s1 (r_asb rfl) ?_
  refine wn ?_
  refine c_sreg rfl ?_
  refine s1 (r_mvs rfl) ?_
  refine s1 (r_len rfl) ?_
  refine s1 (r_sub rfl rfl (wi (by omega) (by omega))) ?_
  refine s1 (r_asi rfl) ?_
  refine wn ?_
  have fail : ∀ w', Mem w No w' [] → openL b = none → ∃ a c, Value.tuple #[.slice none 0 0, .bool false] = .tuple #[.slice a (openV b).length c, .bool (openL b).isSome] ∧ Chg No w w' ∧ New w w' (own 5 1 a (openV b).length c (u8s (openV b))) := fun w' mm hn => by
    have hv : openV b = [] := by unfold openV; rw [hn]; rfl
    rw [hv, hn]
    have mm := mm.nilrow (T := 5) (sz := 1)
    exact ⟨none, 0, rfl, mm.chg, mm.isNew 0 rfl⟩
  by_cases h4 : b.length < 4
  · refine c_seq ?_
    refine c_sdraw2 mixed [(0, some 0), (1, some 0), (2, some 0), (3, some 0), (4, some 0), (5, some 0), (8, some 0), (9, some 2), (6, none), (7, some 2), (10, some 0), (11, some 0)] [0, 0, 0, 0, 0, 0, 2, 2, 0, 0, 0, 0] (Sof mm) (Sof mm) (fun _ h => h) (by kernel_rfl) rfl rfl (by kernel_rfl) (fun w2 hc => ?_)
    have mm := mm.frame hc
    refine q01 rfl (fun w => r_mvi rfl) ?_
    refine q01 rfl (fun w => r_lt rfl rfl) ?_
    refine q01 rfl (fun w => r_mvb rfl) ?_
    refine q0N rfl rfl (congrArg Value.bool (decide_eq_true (by omega))) ?_
    refine q0N rfl rfl (congrArg Value.bool (decide_eq_true (by omega))) ?_
    refine q0N rfl rfl (congrArg Value.bool (decide_eq_true (by omega))) ?_
    refine q0N rfl rfl (congrArg Value.bool (decide_eq_true (by omega))) ?_
    refine qAN rfl rfl (congrArg Value.bool (decide_eq_true (by omega))) mm ?_
    refine qoN rfl rfl (congrArg Value.bool (decide_eq_true (by omega))) ⟨mm, ?_⟩
    refine qAN rfl rfl (congrArg Value.bool (decide_eq_true (by omega))) mm ?_
    refine q0N rfl rfl (congrArg Value.bool (decide_eq_true (by omega))) ?_
    refine q01 rfl (fun w => (r_or (u := false) (congrArg Value.bool (decide_eq_true (by omega))) rfl)) ?_
    refine qn ?_
    refine c_cond rfl (fun h => ?_) (fun h => (c_skip (t_n ?_)))
    · refine c_sreg rfl ?_
      refine s1 (r_ass rfl) ?_
      refine s1 (r_asb rfl) ?_
      refine wn ?_
      exact c_ret (ret2 rfl rfl rfl (fail _ mm (by unfold openL; rw [if_pos h4])))
    · exact absurd h (by decide)
  have e13 : (((b.length : Nat) : Int) - 4).toNat = b.length - 4 := by omega
  have hd : ∀ w', Cells w' a (u8s b) → Sl w' (.slice a (((b.length : Nat) : Int) - 4).toNat c) (b.take (b.length - 4)) := fun w' hq =>
    ⟨a, c, by rw [e13, List.length_take]; congr 1; omega, by rw [List.length_take]; omega, by rw [u8s, List.map_take]; exact hq.take _⟩
  have hT := openL_is b (by omega)
  have htl : (b.take (b.length - 4)).length = b.length - 4 := by rw [List.length_take]; omega
  have hcT : Cells w a (u8s (b.take (b.length - 4))) := by rw [u8s, List.map_take]; exact H.take _
  have hd0 := hd
  generalize b.take (b.length - 4) = t at *
  refine c_seq ?_
  refine c_sdraw2 mixed [(0, some 0), (1, some 0), (2, some 0), (3, some 0), (4, some 0), (5, some 0), (8, some 0), (9, some 2), (6, none), (7, none), (10, some 0), (11, some 0)] [0, 0, 0, 0, 0, 0, 2, 2, 0, 0, 0, 0] (Sof (mm.pk [] (by decide))) (Sof (mm.pk [] (by decide))) (fun _ h => h) (by kernel_rfl) rfl rfl (by kernel_rfl) (fun w3 hc => ?_)
  have mm := mm.frame hc
  refine q01 rfl (fun w => r_mvi rfl) ?_
  refine q01 rfl (fun w => r_lt rfl rfl) ?_
  refine q01 rfl (fun w => r_mvb rfl) ?_
  refine q0K rfl rfl (congrArg Value.bool (decide_eq_false (by omega))) (fun w => r_mvs rfl) ?_
  refine q0K rfl rfl (congrArg Value.bool (decide_eq_false (by omega))) (fun w => r_mvi rfl) ?_
  refine q0K rfl rfl (congrArg Value.bool (decide_eq_false (by omega))) (fun w => r_slh rfl rfl (by omega) (by omega)) ?_
  refine q0K rfl rfl (congrArg Value.bool (decide_eq_false (by omega))) (fun w => r_mvs rfl) ?_
  refine qAK rfl rfl (congrArg Value.bool (decide_eq_false (by omega))) (fun w m => r_b2s rfl (m.ro H) rfl) (mm.pk [] (by decide)) ?_
  refine qoK rfl rfl (congrArg Value.bool (decide_eq_false (by omega))) (o_c1 rfl (c_seal2 t (by omega) _ _ (hd _ (mm.ro H))) ?_)
  rintro _ w4 ⟨a4, c4, rfl, hc, hn⟩
  have mm := mm.new hc hn
  refine ⟨(mm.pk [] (by decide)), ?_⟩
  refine qoK rfl rfl (congrArg Value.bool (decide_eq_false (by omega))) (o_v (r_b2s rfl (mm.c  0 rfl) rfl) ⟨(mm.pk [] (by decide)), ?_⟩)
  refine q0K rfl rfl (congrArg Value.bool (decide_eq_false (by omega))) (fun w => r_sne rfl rfl) ?_
  refine q01 rfl (fun w => r_or (congrArg Value.bool (decide_eq_false (by omega))) rfl) ?_
  refine qn ?_
  refine c_cond rfl (fun h => ?_) (fun h => (c_skip (t_n ?_)))
  · have hn : openL b = none := by
      rw [hT]
      exact if_neg (by simp at h; exact h)
    refine c_sreg rfl ?_
    refine s1 (r_ass rfl) ?_
    refine s1 (r_asb rfl) ?_
    refine wn ?_
    exact c_ret (ret2 rfl rfl rfl (fail _ (mm.pk [] (by decide)) hn))
  have hq : sealL t = b := by simp at h; exact h
  rw [if_pos hq] at hT
  have hv : openV b = t := by unfold openV; rw [hT]; rfl
  have mm := mm.pk [] (by decide)
  refine c_sreg rfl ?_
  refine so (o_bs0 mm fun a5 c5 w5 mm => ?_)
  refine s1 (r_mvs rfl) ?_
  refine s1 (r_mvi rfl) ?_
  refine s1 (r_slh rfl rfl (by omega) (by omega)) ?_
  refine so (o_ap mm 0 rfl rfl rfl (src_cells (n := (((b.length : Nat) : Int) - 4).toNat) (mm.ro hcT) (by rw [u8s_length, htl, e13, Nat.mul_one]) (ones_u8s _) (by decide)) (by omega) (by unfold maxLen; omega) fun a6 c6 w6 mm => ?_)
  refine s1 (r_ass rfl) ?_
  refine s1 (r_asb rfl) ?_
  refine wn ?_
  have mm := mm.cst1 (n' := t.length) (cs' := u8s t) (by omega) rfl
  rw [hv, hT]
  refine c_ret (ret2 rfl rfl rfl ⟨_, _, ?_, mm.chg, mm.isNew 0 rfl⟩)
  have hz : t.length = 0 + (((b.length : Nat) : Int) - 4).toNat := by omega
  rw [hz]; rfl

theorem c_in07 (n : Int) (w : World) : Cl Try.prog 82 #[.int .i64 n] w (fun v w' => v = .bool (inEv n) ∧ Chg No w w') := by
  refine f_enter (args := [_]) Try.func82 rfl rfl ?_
  have mm := Mem.nil No w
  refine c_sreg rfl ?_
  refine s1 (r_asb rfl) ?_
  refine wn ?_
  refine c_sreg rfl ?_
  refine s1 (r_mvi rfl) ?_
  refine s1 (r_ge rfl rfl) ?_
  refine s1 (r_mvb rfl) ?_
  refine sT rfl rfl (fun h => r_mvi rfl) ?_
  refine sT rfl rfl (fun h => r_le (sel_t h :) rfl) ?_
  refine s1 (r_and rfl rfl) ?_
  refine s1 (r_asb rfl) ?_
  refine wn ?_
  exact c_ret (ret1 rfl rfl ⟨rfl, mm.chg⟩)
theorem c_clock07 (c : Clk) (w : World) : Cl Try.prog 83 #[.agg (clkC c).toArray] w (fun v w' => v = .bool (c.all inEv) ∧ Chg No w w') := by
  refine f_enter (args := [_]) Try.func83 rfl rfl ?_
  have mm := Mem.nil No w
  refine c_sreg rfl ?_
  refine so (o_bxa mm rfl fun b2 w2 mm => ?_)
  refine s1 (r_asb rfl) ?_
  refine wn ?_
  have mm : Mem w No _ [bk b2 (clkC c) 23] := mm
  refine c_seq ?_
  refine c_sreg rfl ?_
  refine s1 (r_asi rfl) ?_
  refine wn ?_
  refine c_block ?_
  refine c_loop (fun kk e w' => ∃ i : Nat, kk + i = 5 ∧ e 1 = .pointer (some ⟨b2, 0, none⟩) ∧ e 3 = .int .i64 (i : Nat) ∧ Mem w No w' [bk b2 (clkC c) 23] ∧ ∀ j, j < i → inEv (c.get j) = true) 5 ?_ ?_
  · exact ⟨0, rfl, rfl, rfl, mm, fun j hj => absurd hj (by omega)⟩
  clear mm
  rintro kk e w9 ⟨i, hki, h1, h3, mm, hh⟩
  refine c_seq ?_
  refine c_sreg rfl ?_
  refine s1 (r_mvi h3) ?_
  refine s1 (r_lt rfl rfl) ?_
  refine wn ?_
  refine c_cond rfl (fun h => (c_skip (t_n ?_))) (fun h => (c_exit (t_x (t_x (b_x (t_n ?_))))))
  · have hi : i < 5 := by simp at h; omega
    clear h
    refine c_seq ?_
    refine c_block ?_
    refine c_sreg rfl ?_
    refine s1 (r_mvi h3) ?_
    refine s1 (r_ixa h1 rfl (by omega) (by omega)) ?_
    refine s1 (r_ld rfl (mm.b 0 rfl) (by simp only [Nat.mul_one, Nat.zero_add]; exact nth_clk c i hi)) ?_
    refine so (o_c1 rfl (c_in07 _ _) ?_)
    rintro _ w3 ⟨rfl, hc⟩
    have mm := mm.frame hc
    refine s1 (r_not rfl) ?_
    refine wn ?_
    refine c_cond rfl (fun h => ?_) (fun h => (c_skip (b_n (t_n ?_))))
    · refine c_sreg rfl ?_
      refine s1 (r_asb rfl) ?_
      refine wn ?_
      refine c_ret (ret1 rfl rfl ⟨congrArg Value.bool ?_, mm.chg⟩)
      cases ha : c.all inEv with
      | false => rfl
      | true => rw [(Clk.all_iff _ _).1 ha i hi] at h; cases h
    have hin : inEv (c.get i) = true := by simpa using h
    clear h
    refine c_region rfl ?_
    refine s1 (r_mvi h3) ?_
    refine s1 (r_add rfl rfl (wi (by omega) (by omega))) ?_
    refine s1 (r_asi rfl) ?_
    refine wn (t_n ?_)
    refine ⟨kk - 1, by omega, i + 1, by omega, h1, rfl, mm, fun j hj => ?_⟩
    rcases Nat.lt_or_ge j i with hlt | hge
    · exact hh j hlt
    · obtain rfl : j = i := by omega
      exact hin
  have hi : i = 5 := by simp at h; omega
  subst hi
  clear h
  refine c_sreg rfl ?_
  refine s1 (r_asb rfl) ?_
  refine wn ?_
  refine c_ret (ret1 rfl rfl ⟨congrArg Value.bool ?_, mm.chg⟩)
  exact ((Clk.all_iff _ _).2 hh).symm

theorem all_snoc {α : Type} (l : List α) (p : α → Bool) (i : Nat) (hi : i < l.length) (h : (l.take i).all p = true) (hp : p l[i] = true) : (l.take (i + 1)).all p = true := by
  rw [List.take_succ_eq_append_getElem hi, List.all_append, h, List.all_cons, hp]; rfl
theorem all_not {α : Type} (l : List α) (p : α → Bool) (i : Nat) (hi : i < l.length) (hp : p l[i] = false) : l.all p = false := by
  cases h : l.all p with
  | false => rfl
  | true => rw [List.all_eq_true.1 h l[i] (List.getElem_mem hi)] at hp; cases hp
theorem c_events07 (l : List Ev) {a : Option Addr} {cap : Nat} (hl : l.length ≤ 1000000000000000) (w : World) (H : Cells w a (evsC l)) : Cl Try.prog 81 #[.slice a l.length cap] w (fun v w' => v = .bool (l.all (fun y => decide (evMay y = 0)) && decide (((l.length : Nat) : Int) ≤ 20)) ∧ Chg No w w') := by
  refine f_enter (args := [_]) Try.func81 rfl rfl ?_
  have mm := Mem.nil No w
  refine c_sreg rfl ?_
  refine s1 (r_asb rfl) ?_
  refine wn ?_
  refine c_seq ?_
  refine c_sreg rfl ?_
  refine s1 (r_asi rfl) ?_
  refine wn ?_
  refine c_block ?_
  refine c_loop (fun kk e w' => ∃ i : Nat, kk + i = l.length ∧ e 0 = .slice a l.length cap ∧ e 3 = .int .i64 (i : Nat) ∧ Mem w No w' [] ∧ (l.take i).all (fun y => decide (evMay y = 0)) = true) l.length ?_ ?_
  · exact ⟨0, rfl, rfl, rfl, mm, rfl⟩
  clear mm
  rintro kk e w9 ⟨i, hki, h0, h3, mm, hh⟩
  refine c_seq ?_
  refine c_sreg rfl ?_
  refine s1 (r_mvi h3) ?_
  refine s1 (r_mvs h0) ?_
  refine s1 (r_len rfl) ?_
  refine s1 (r_lt rfl rfl) ?_
  refine wn ?_
  refine c_cond rfl (fun h => (c_skip (t_n ?_))) (fun h => (c_exit (t_x (t_x (b_x (t_n ?_))))))
  · have hi : i < l.length := by simp at h; omega
    clear h
    refine c_seq ?_
    refine c_block ?_
    refine c_sreg rfl ?_
    refine s1 (r_mvs h0) ?_
    refine s1 (r_mvi h3) ?_
    refine s1 (r_ix rfl rfl (by omega) (by omega) (evs_some H hi)) ?_
    refine s1 (r_ldce rfl (mm.ro H) (seg_evs l i hi) (evs_le l i hi) (by decide)) ?_
    refine so (o_c1 rfl (c_may6 _ _) ?_)
    rintro _ w2 ⟨rfl, hc⟩
    have mm := mm.frame hc
    refine s1 (r_ne rfl rfl) ?_
    refine wn ?_
    refine c_cond rfl (fun h => ?_) (fun h => (c_skip (b_n (t_n ?_))))
    · refine c_sreg rfl ?_
      refine s1 (r_asb rfl) ?_
      refine wn ?_
      refine c_ret (ret1 rfl rfl ⟨congrArg Value.bool ?_, mm.chg⟩)
      rw [all_not l _ i hi (by simpa using h)]; rfl
    have hin : decide (evMay l[i] = 0) = true := by simpa using h
    clear h
    refine c_region rfl ?_
    refine s1 (r_mvi h3) ?_
    refine s1 (r_add rfl rfl (wi (by omega) (by omega))) ?_
    refine s1 (r_asi rfl) ?_
    refine wn (t_n ?_)
    exact ⟨kk - 1, by omega, i + 1, by omega, h0, rfl, mm, all_snoc l _ i hi hh hin⟩
  have hi : i = l.length := by simp at h; omega
  subst hi
  clear h
  rw [List.take_length] at hh
  refine c_sreg rfl ?_
  refine s1 (r_mvs h0) ?_
  refine s1 (r_len rfl) ?_
  refine s1 (r_le rfl rfl) ?_
  refine s1 (r_asb rfl) ?_
  refine wn ?_
  rw [hh]
  exact c_ret (ret1 rfl rfl ⟨rfl, mm.chg⟩)
end Go.Proofs.Ytgdbbaggkoillaa
