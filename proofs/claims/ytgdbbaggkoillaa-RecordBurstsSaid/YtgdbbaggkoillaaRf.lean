/- record.All, of records behind one another and what stops it: the walk. -/
import Derived.Test.YtgdbbaggkoillaaRe
import Derived.Test.YtgdbbaggkoillaaRw
namespace Go.Proofs.Ytgdbbaggkoillaa
open K
set_option maxRecDepth 100000
set_option maxHeartbeats 4000000

theorem K.Mem.castr {w0 w : World} {F0 : Nat → Prop} {I : It} {T : TypeId} {sz n n' c : Nat} {a : Option Addr} {cs cs' : List Value} (h : Mem w0 F0 w [own T sz a n c cs, I]) (hn : n = n') (hc : cs = cs') : Mem w0 F0 w [own T sz a n' c cs', I] := by subst hn; subst hc; exact h
theorem putsR_take (rs : List Rec) (i : Nat) (h : i < rs.length) : putsR (rs.take (i + 1)) = putsR (rs.take i) ++ putR rs[i] := by
  rw [List.take_succ_eq_append_getElem h, putsR_append, putsR_cons]; simp [putsR]
theorem putsR_drop (rs : List Rec) (i : Nat) (h : i < rs.length) : putsR (rs.drop i) = putR rs[i] ++ putsR (rs.drop (i + 1)) := by
  rw [List.drop_eq_getElem_cons h, putsR_cons]
theorem putsR_split (rs : List Rec) (i : Nat) (t : List UInt8) : (putsR rs ++ t).drop (putsR (rs.take i)).length = putsR (rs.drop i) ++ t := by
  have h : putsR rs = putsR (rs.take i) ++ putsR (rs.drop i) := by rw [← putsR_append, List.take_append_drop]
  rw [h, List.append_assoc, List.drop_left]
theorem putsR_ge : ∀ rs : List Rec, rs.length ≤ (putsR rs).length
  | [] => Nat.zero_le _
  | x :: l => by rw [putsR_cons, List.length_append, List.length_cons]; have := putR_len x; have := putsR_ge l; omega
theorem Sl.fr {w w' : World} {v : Value} {b : List UInt8} (h : Sl w v b) (hc : Chg No w w') : Sl w' v b := by
  obtain ⟨a, c, rfl, hcc, H⟩ := h
  exact ⟨a, c, rfl, hcc, H.fr hc⟩
theorem c_open0 (b : List UInt8) (hb : (sealL b).length ≤ 1099511627776) (v : Value) (w : World) (hs : Sl w v (sealL b)) : Cl Try.prog 64 #[v] w (fun v w' => ∃ a c, v = .tuple #[.slice a b.length c, .bool true] ∧ Chg No w w' ∧ New w w' (own 5 1 a b.length c (u8s b))) := by
  have h := c_open (sealL b) hb v w hs
  have h1 : openV (sealL b) = b := by unfold openV; rw [openL_seal]; rfl
  rw [h1, openL_seal] at h
  exact h
theorem Sl.part {w : World} {a : Option Addr} {c : Nat} {s : List UInt8} (H : Cells w a (u8s s)) (hc : s.length ≤ c) (l h : Nat) (hl : l ≤ h) (hh : h ≤ s.length) : Sl w (.slice (slA a c l 1) (h - l) (c - l)) ((s.drop l).take (h - l)) := by
  obtain ⟨a', c', he, hc', H'⟩ := Sl.drop H hc l (by omega)
  injection he with e1 e2 e3
  subst e1; subst e3
  refine ⟨slA a c l 1, c - l, ?_, ?_, ?_⟩
  · rw [List.length_take, List.length_drop]; congr 1; omega
  · rw [List.length_take, List.length_drop]; omega
  · unfold u8s; rw [List.map_take]; exact H'.take _
theorem c_vtakeV (b : List UInt8) (hb : b.length ≤ 4611686018427387904) {n k : Nat} {er : Int} (h : vtake b = (n, k, er)) (v : Value) (w : World) (hs : Sl w v b) : Cl Try.prog 42 #[v] w (fun r w' => r = .tuple #[.int .u64 (n : Nat), .int .i64 (k : Nat), .int .i64 er] ∧ Chg No w w') := by
  have h1 := c_vtake b hb v w hs
  rw [h] at h1
  exact h1
theorem c_rAll (rs : List Rec) (hok : ∀ x ∈ rs, RecOk x) (t : List UInt8) (hst : StopR t) (hlen : (putsR rs ++ t).length ≤ 1000000000) (v : Value) (w : World) (hs : Sl w v (putsR rs ++ t)) : Cl Try.prog 40 #[v] w
    (fun r w' => ∃ (ms : List RecM) (a : Option Addr) (c : Nat), ms.map (·.1) = rs ∧ r = .tuple #[.slice a ms.length c, .int .i64 (putsR rs).length] ∧ Mem w No w' [own 43 9 a ms.length c (rmsC ms), evi ms]) := by
  generalize hb : putsR rs ++ t = b at *
  have hbl : b.length = (putsR rs).length + t.length := by rw [← hb, List.length_append]
  obtain ⟨a, c, rfl, hcc, H⟩ := hs
  refine f_enter (args := [_]) Try.func40 rfl rfl ?_
  have mm := Mem.nil No w
  refine c_sreg rfl ?_
  refine s1 (r_ass rfl) ?_
  refine s1 (r_asi rfl) ?_
  refine wn ?_
  refine c_sreg rfl ?_
  refine s1 (r_ass rfl) ?_
  refine wn ?_
  refine c_sreg rfl ?_
  refine s1 (r_asi rfl) ?_
  refine wn ?_
  refine c_block ?_
  refine c_loop (fun k e w' => ∃ (i : Nat) (ms : List RecM) (ao : Option Addr) (co : Nat), k + i = rs.length ∧ ms.map (·.1) = rs.take i ∧ e 0 = .slice a b.length c ∧ e 4 = .slice ao ms.length co ∧ e 5 = .int .i64 ((putsR (rs.take i)).length : Nat) ∧ Mem w No w' [own 43 9 ao ms.length co (rmsC ms), evi ms]) rs.length ?_ ?_
  · exact ⟨0, [], none, 0, rfl, rfl, rfl, rfl, rfl, (mm.nilrow (T := 43) (sz := 9)).evi0⟩
  clear mm
  rintro k e w9 ⟨i, ms, ao, co, hki, hms, h0, h4, h5, mm⟩
  have hmsl : ms.length ≤ rs.length := by have := congrArg List.length hms; rw [List.length_map, List.length_take] at this; omega
  have hrsl := putsR_ge rs
  have hsp := putsR_split rs i t
  rw [hb] at hsp
  have hAl : (putsR (rs.take i)).length ≤ b.length := by
    have h1 : putsR rs = putsR (rs.take i) ++ putsR (rs.drop i) := by rw [← putsR_append, List.take_append_drop]
    have h2 := congrArg List.length h1
    rw [List.length_append] at h2
    omega
  have hsl := Sl.drop H hcc (putsR (rs.take i)).length hAl
  generalize hA : (putsR (rs.take i)).length = A at *
  rw [hsp] at hsl
  refine c_block ?_
  have hdl := congrArg List.length hsp
  rw [List.length_drop, List.length_append] at hdl
  by_cases hi : i < rs.length
  · have ok := hok rs[i] (List.getElem_mem hi)
    have h3 := vput_lenR ok
    have hbd := bodyR_len ok
    have hput : putR rs[i] = vput (sealL (bodyR rs[i])).length ++ sealL (bodyR rs[i]) := rfl
    have hds := putsR_drop rs i hi
    have hts := putsR_take rs i hi
    have htl := congrArg List.length hts
    rw [List.length_append, hA, hput, List.length_append] at htl
    generalize hx : rs[i] = x at *
    have hSl := sealL_length (bodyR x)
    generalize hn : (sealL (bodyR x)).length = n at *
    rw [hds, hput, List.append_assoc, List.append_assoc] at hsl
    have hdl2 := congrArg List.length hds
    rw [List.length_append, hput, List.length_append, hn] at hdl2
    have hpart : ∀ w', Cells w' a (u8s b) → Sl w' (.slice (slA a c (A + (vput n).length) 1) (A + (vput n).length + n - (A + (vput n).length)) (c - (A + (vput n).length))) (sealL (bodyR x)) := fun w' Hw => by
      have h9 := Sl.part Hw hcc (A + (vput n).length) (A + (vput n).length + n) (by omega) (by omega)
      have h8 : (b.drop (A + (vput n).length)).take (A + (vput n).length + n - (A + (vput n).length)) = sealL (bodyR x) := by
        rw [← List.drop_drop, hsp, hds, hput, List.append_assoc, List.append_assoc, List.drop_left, Nat.add_sub_cancel_left, ← hn, List.take_left]
      rw [h8] at h9
      exact h9
    refine c_sreg rfl ?_
    refine s1 (r_mvs h0) ?_
    refine s1 (r_mvi h5) ?_
    refine s1 (r_sll rfl rfl (by omega) (by omega)) ?_
    refine so (o_c1 rfl (c_vtake0 n (sealL (bodyR x) ++ (putsR (rs.drop (i + 1)) ++ t)) (by omega) (by rw [List.length_append, List.length_append, List.length_append]; omega) _ _ (hsl.fr mm.chg)) ?_)
    rintro _ w2 ⟨rfl, hc⟩
    have mm := mm.frame hc
    refine s1 (r_mvu rfl) ?_
    refine s1 (r_exti rfl rfl) ?_
    refine s1 (r_exti rfl rfl) ?_
    refine s1 (r_exti rfl rfl) ?_
    refine s1 (r_asi rfl) ?_
    refine s1 (r_asi rfl) ?_
    refine s1 (r_asi rfl) ?_
    refine wn ?_
    refine c_seq ?_
    refine c_sreg rfl ?_
    refine s1 (r_mvi rfl) ?_
    refine s1 (r_ne rfl rfl) ?_
    refine s1 (r_mvb rfl) ?_
    refine sF rfl rfl (fun h => r_mvi rfl) ?_
    refine sF rfl rfl (fun h => r_mvs h0) ?_
    refine sF rfl rfl (fun h => r_len (sel_t h :)) ?_
    refine sF rfl rfl (fun h => r_mvi h5) ?_
    refine sF rfl rfl (fun h => r_sub (sel_t h :) (sel_t h :) (wi (by omega) (by omega))) ?_
    refine sF rfl rfl (fun h => r_mvi rfl) ?_
    refine sF rfl rfl (fun h => r_sub (sel_t h :) (sel_t h :) (wi (by omega) (by omega))) ?_
    refine sF rfl rfl (fun h => r_cv (sel_t h :) (wu64 (by omega) (by omega))) ?_
    refine sF rfl rfl (fun h => r_gt (sel_t h :) (sel_t h :)) ?_
    refine s1 (r_or rfl rfl) ?_
    refine wn ?_
    refine c_cond rfl (fun h => ?_) (fun h => (c_skip (t_n ?_)))
    · exfalso; simp at h; omega
    clear h
    refine c_sreg rfl ?_
    refine s1 (r_mvi h5) ?_
    refine s1 (r_mvi rfl) ?_
    refine s1 (r_add rfl rfl (wi (by omega) (by omega))) ?_
    refine s1 (r_mvi rfl) ?_
    refine s1 (r_cv rfl (wi (by omega) (by omega))) ?_
    refine s1 (r_add rfl rfl (wi (by omega) (by omega))) ?_
    refine s1 (r_asi rfl) ?_
    refine wn ?_
    refine c_sreg rfl ?_
    refine s1 (r_mvs h0) ?_
    refine s1 (r_mvi h5) ?_
    refine s1 (r_mvi rfl) ?_
    refine s1 (r_add rfl rfl (wi (by omega) (by omega))) ?_
    refine s1 (r_mvi rfl) ?_
    refine s1 (r_slb rfl rfl rfl (by omega) (by omega) (by omega)) ?_
    refine so (o_c1 rfl (c_open0 (bodyR x) (by omega) _ _ (hpart _ (mm.ro H))) ?_)
    rintro _ w3 ⟨a3, c3, rfl, hc, hn'⟩
    have mm := mm.new hc hn'
    refine s1 (r_mvu rfl) ?_
    refine s1 (r_exts rfl rfl) ?_
    refine s1 (r_extb rfl rfl) ?_
    refine s1 (r_ass rfl) ?_
    refine s1 (r_asb rfl) ?_
    refine wn ?_
    refine c_seq ?_
    refine c_sreg rfl ?_
    refine s1 (r_mvb rfl) ?_
    refine s1 (r_not rfl) ?_
    refine wn ?_
    refine c_cond rfl (fun h => ?_) (fun h => (c_skip (t_n ?_)))
    · cases h
    clear h
    refine c_sreg rfl ?_
    refine s1 (r_mvs rfl) ?_
    refine so (o_c1 rfl (c_rBody x ok _ _ (Sl.own mm 2 rfl)) ?_)
    rintro _ w4 ⟨a4, c4, rfl, hc, hn''⟩
    have mm := mm.new hc hn''
    refine s1 (r_mvu rfl) ?_
    refine s1 (r_extg rfl rfl) ?_
    refine s1 (r_extb rfl rfl) ?_
    refine so (o_al mm fun b5 w5 mm => ?_)
    refine ss (o_sta mm 4 rfl rfl rfl rfl rfl (Nat.le_of_ble_eq_true rfl) fun w6 mm => ?_)
    refine s1 (r_asb rfl) ?_
    refine wn ?_
    refine c_seq ?_
    refine c_sreg rfl ?_
    refine s1 (r_mvb rfl) ?_
    refine s1 (r_not rfl) ?_
    refine wn ?_
    refine c_cond rfl (fun h => ?_) (fun h => (c_skip (t_n ?_)))
    · cases h
    clear h
    refine c_region rfl ?_
    refine s1 (r_mvs h4) ?_
    refine s1 (r_lda rfl (mm.b 4 rfl) rfl) ?_
    refine so (o_bg mm (bg rfl bN) rfl rfl (by decide) (by decide) (by decide) fun a7 c7 w7 mm => ?_)
    refine so (o_ap mm 0 rfl rfl rfl (src_own mm 5 rfl rfl) (by omega) (by unfold maxLen; omega) fun a8 c8 w8 mm => ?_)
    refine s1 (r_mvi rfl) ?_
    refine s1 (r_ass rfl) ?_
    refine s1 (r_asi rfl) ?_
    refine wn (b_n (t_n ?_))
    have mm := (mm.fuseE 1 3 (x := x) rfl rfl (by decide)).pk [0, 1] (by decide)
    have mm := mm.castr (n' := (ms ++ [(x, a4, c4)]).length) (cs' := rmsC (ms ++ [(x, a4, c4)])) (by rw [List.length_append]; rfl) (by rw [rmsC_append]; rfl)
    have hts2 : rs.take (i + 1) = rs.take i ++ [x] := by rw [List.take_succ_eq_append_getElem hi, hx]
    refine ⟨k - 1, by omega, i + 1, ms ++ [(x, a4, c4)], _, _, by omega, by rw [List.map_append, hms, hts2]; rfl, h0, ?_, ?_, mm⟩
    · rw [List.length_append]; rfl
    · rw [htl]
      exact congrArg (Value.int .i64) (show ((A : Nat) : Int) + (((vput n).length : Nat) : Int) + ((n : Nat) : Int) = ((A + ((vput n).length + n) : Nat) : Int) by omega)
  have hil : i = rs.length := by
    have h1 : ¬ i < rs.length := hi
    omega
  have hms' : ms.map (·.1) = rs := by rw [hms, hil, List.take_length]
  have hA' : A = (putsR rs).length := by rw [← hA, hil, List.take_length]
  have hd0 : rs.drop i = [] := by rw [hil, List.drop_length]
  rw [hd0] at hsl hdl hsp
  have hsl : Sl w (.slice (slA a c A 1) (b.length - A) (c - A)) t := hsl
  have hsp : b.drop A = t := hsp
  rw [← hA']
  have hve := vtake_err (b := t)
  have h10 : (vtake t).2.2 = 0 → (vtake t).2.1 ≤ t.length := fun hz => by
    rcases hve with hve | hve | hve
    · exact hve.2.2
    · omega
    · omega
  unfold StopR at hst
  obtain ⟨n, kk, er, hvt⟩ : ∃ n kk er, vtake t = (n, kk, er) := ⟨_, _, _, rfl⟩
  rw [hvt] at hst h10
  simp only at hst h10
  refine c_sreg rfl ?_
  refine s1 (r_mvs h0) ?_
  refine s1 (r_mvi h5) ?_
  refine s1 (r_sll rfl rfl (by omega) (by omega)) ?_
  refine so (o_c1 rfl (c_vtakeV t (by omega) hvt _ _ (hsl.fr mm.chg)) ?_)
  rintro _ w9 ⟨rfl, hc⟩
  have mm := mm.frame hc
  refine s1 (r_mvu rfl) ?_
  refine s1 (r_exti rfl rfl) ?_
  refine s1 (r_exti rfl rfl) ?_
  refine s1 (r_exti rfl rfl) ?_
  refine s1 (r_asi rfl) ?_
  refine s1 (r_asi rfl) ?_
  refine s1 (r_asi rfl) ?_
  refine wn ?_
  refine c_seq ?_
  refine c_sreg rfl ?_
  refine s1 (r_mvi rfl) ?_
  refine s1 (r_ne rfl rfl) ?_
  refine s1 (r_mvb rfl) ?_
  refine sF rfl rfl (fun h => r_mvi rfl) ?_
  refine sF rfl rfl (fun h => r_mvs h0) ?_
  refine sF rfl rfl (fun h => r_len (sel_t h :)) ?_
  refine sF rfl rfl (fun h => r_mvi h5) ?_
  refine sF rfl rfl (fun h => r_sub (sel_t h :) (sel_t h :) (wi (by omega) (by omega))) ?_
  refine sF rfl rfl (fun h => r_mvi rfl) ?_
  refine sF rfl rfl (fun h => r_sub (sel_t h :) (sel_t h :) (wi (by have := h10 (by simpa using h); omega) (by omega))) ?_
  refine sF rfl rfl (fun h => r_cv (sel_t h :) (wu64 (by have := h10 (by simpa using h); omega) (by omega))) ?_
  refine sF rfl rfl (fun h => r_gt (sel_t h :) (sel_t h :)) ?_
  refine s1 (r_or rfl rfl) ?_
  refine wn ?_
  refine c_cond rfl (fun h => ?_) (fun h => (c_skip (t_n ?_)))
  · refine c_sreg rfl ?_
    refine s1 (r_mvs h4) ?_
    refine s1 (r_mvi h5) ?_
    refine s1 (r_ass rfl) ?_
    refine s1 (r_asi rfl) ?_
    refine wn ?_
    exact c_ret (ret2 rfl rfl rfl ⟨ms, ao, co, hms', rfl, mm⟩)
  have hz : er = 0 := by simp at h; omega
  have hn : n ≤ t.length - kk := by have := h10 hz; simp at h; omega
  have h10 := h10 hz
  clear h
  have hop : openL ((t.drop kk).take n) = none := by
    rcases hst with hst | hst | hst
    · exact absurd hz hst
    · omega
    · exact hst
  refine c_sreg rfl ?_
  refine s1 (r_mvi h5) ?_
  refine s1 (r_mvi rfl) ?_
  refine s1 (r_add rfl rfl (wi (by omega) (by omega))) ?_
  refine s1 (r_mvi rfl) ?_
  refine s1 (r_cv rfl (wi (by omega) (by omega))) ?_
  refine s1 (r_add rfl rfl (wi (by omega) (by omega))) ?_
  refine s1 (r_asi rfl) ?_
  refine wn ?_
  have hpart : ∀ w', Cells w' a (u8s b) → Sl w' (.slice (slA a c (A + kk) 1) (A + kk + n - (A + kk)) (c - (A + kk))) ((t.drop kk).take n) := fun w' Hw => by
    have h9 := Sl.part Hw hcc (A + kk) (A + kk + n) (by omega) (by omega)
    rw [← List.drop_drop, hsp, Nat.add_sub_cancel_left] at h9
    rw [Nat.add_sub_cancel_left]
    exact h9
  refine c_sreg rfl ?_
  refine s1 (r_mvs h0) ?_
  refine s1 (r_mvi h5) ?_
  refine s1 (r_mvi rfl) ?_
  refine s1 (r_add rfl rfl (wi (by omega) (by omega))) ?_
  refine s1 (r_mvi rfl) ?_
  refine s1 (r_slb rfl rfl rfl (by omega) (by omega) (by omega)) ?_
  refine so (o_c1 rfl (c_open ((t.drop kk).take n) (by rw [List.length_take]; omega) _ _ (hpart _ (mm.ro H))) ?_)
  rintro _ w10 ⟨a10, c10, rfl, hc, hn'⟩
  have mm := mm.frame hc
  refine s1 (r_mvu rfl) ?_
  refine s1 (r_exts rfl rfl) ?_
  refine s1 (r_extb rfl rfl) ?_
  refine s1 (r_ass rfl) ?_
  refine s1 (r_asb rfl) ?_
  refine wn ?_
  rw [hop] at *
  refine c_seq ?_
  refine c_sreg rfl ?_
  refine s1 (r_mvb rfl) ?_
  refine s1 (r_not rfl) ?_
  refine wn ?_
  refine c_cond rfl (fun h => ?_) (fun h => (c_skip (t_n ?_)))
  · refine c_sreg rfl ?_
    refine s1 (r_mvs h4) ?_
    refine s1 (r_mvi h5) ?_
    refine s1 (r_ass rfl) ?_
    refine s1 (r_asi rfl) ?_
    refine wn ?_
    exact c_ret (ret2 rfl rfl rfl ⟨ms, ao, co, hms', rfl, mm⟩)
  · cases h
end Go.Proofs.Ytgdbbaggkoillaa

