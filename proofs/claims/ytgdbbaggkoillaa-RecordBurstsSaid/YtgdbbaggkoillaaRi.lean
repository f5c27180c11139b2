/- kithlaw18.RecordCuts, RecordJoins: walks. -/
import Derived.Test.YtgdbbaggkoillaaRh
namespace Go.Proofs.Ytgdbbaggkoillaa
open K
set_option maxRecDepth 100000
set_option maxHeartbeats 4000000

theorem Slr.fr {w w' : World} {v : Value} {l : List RecM} (h : Slr w v l) (hc : Chg No w w') : Slr w' v l := by
  obtain ⟨a, c, rfl, H, He⟩ := h
  exact ⟨a, c, rfl, H.fr hc, fun m hm => (He m hm).fr hc⟩
theorem Slr.of {w0 w : World} {F0 : Nat → Prop} {L : List It} (mm : Mem w0 F0 w L) (k k' : Nat) {ms : List RecM} {a : Option Addr} {c : Nat} (hk : nth L k = some (own 43 9 a ms.length c (rmsC ms))) (hk' : nth L k' = some (evi ms)) : Slr w (.slice a ms.length c) ms :=
  ⟨a, c, rfl, mm.c k hk, mm.evc k' hk'⟩
theorem rmsC_take (l : List RecM) (n : Nat) : (rmsC l).take (n * 9) = rmsC (l.take n) := by
  induction l generalizing n with
  | nil => simp [rmsC]
  | cons x l ih =>
    cases n with
    | zero => simp [rmsC]
    | succ n =>
      have h1 : ∀ y (m : List RecM), rmsC (y :: m) = rmC y ++ rmsC m := fun y m => List.flatMap_cons
      rw [List.take_succ_cons, h1, h1, show (n + 1) * 9 = (rmC x).length + n * 9 from by rw [rmC_length]; omega, List.take_length_add_append, ih]
theorem Slr.take {w : World} {a : Option Addr} {n c : Nat} {l : List RecM} (h : Slr w (.slice a n c) l) (i : Nat) (hi : i ≤ l.length) : Slr w (.slice a i c) (l.take i) := by
  obtain ⟨a', c', he, H, He⟩ := h
  injection he with e1 e2 e3
  subst e1; subst e3
  refine ⟨a, c, ?_, ?_, fun m hm => He m (List.mem_of_mem_take hm)⟩
  · rw [List.length_take]; congr 1; omega
  · rw [← rmsC_take]; exact H.take _
theorem recW_all {ms : List RecM} {rs : List Rec} (h : ms.map (·.1) = rs) (hok : ∀ x ∈ rs, RecOk x) : ∀ y ∈ ms, RecW y.1 := fun y hy => recW_of (hok _ (by rw [← h]; exact List.mem_map_of_mem hy))
theorem Sl.nil2 {w : World} {v : Value} {b : List UInt8} (h : Sl w v b) : Sl w v (b ++ []) := by rw [List.append_nil]; exact h
theorem putsR_mono (rs : List Rec) : ∀ i, (putsR (rs.take i)).length ≤ (putsR rs).length := fun i => by
  have h1 : putsR rs = putsR (rs.take i) ++ putsR (rs.drop i) := by rw [← putsR_append, List.take_append_drop]
  have h2 := congrArg List.length h1
  rw [List.length_append] at h2
  omega
/-- What is left of the bytes, cut at k: whole records, and what stops the reading. -/
theorem cut_split (rs : List Rec) (hok : ∀ x ∈ rs, RecOk x) (i k : Nat) (hi : i ≤ rs.length) (h1 : (putsR (rs.take i)).length ≤ k) (h2 : i = rs.length ∨ k < (putsR (rs.take (i + 1))).length) (hk : k ≤ (putsR rs).length) :
    ∃ t, StopR t ∧ (putsR rs).take k = putsR (rs.take i) ++ t := by
  have hs : putsR rs = putsR (rs.take i) ++ putsR (rs.drop i) := by rw [← putsR_append, List.take_append_drop]
  rcases h2 with h2 | h2
  · subst h2
    rw [List.take_length] at h1 ⊢
    exact ⟨[], stop_nil, by rw [List.append_nil, List.take_of_length_le h1]⟩
  · rcases Nat.lt_or_ge i rs.length with hlt | hge
    · have ok := hok _ (List.getElem_mem hlt)
      rw [putsR_take rs i hlt, List.length_append] at h2
      refine ⟨(putR rs[i]).take (k - (putsR (rs.take i)).length), stop_cut ok _ (by omega), ?_⟩
      rw [hs, List.take_append, List.take_of_length_le h1, putsR_drop rs i hlt, List.take_append_of_le_length (by omega)]
    · rw [List.take_of_length_le (show rs.length ≤ i + 1 by omega)] at h2
      rw [List.take_of_length_le hge] at h1
      omega
theorem c_RecordCuts (l : List RecM) (hin : ∀ m ∈ l, RecIn m.1) (cut : Nat) (hcut : cut ≤ 65535) (v : Value) (w : World) (hs : Slr w v l) : Cl Try.prog 15 #[v, .int .u16 (cut : Nat)] w (fun v w' => v = .bool true ∧ Chg No w w') := by
  have hs0 := hs
  obtain ⟨a, c, rfl, H, He⟩ := hs
  refine f_enter (args := [_, _]) Try.func15 rfl rfl ?_
  have mm := Mem.nil No w
  have hok := madeR_ok l 10
  have hple := putsR_le (madeR l 10) hok
  have hrl : (madeR l 10).length ≤ 10 := by unfold madeR; rw [List.length_map, List.length_take]; omega
  refine c_sreg rfl ?_
  refine s1 (r_asb rfl) ?_
  refine wn ?_
  refine c_sreg rfl ?_
  refine so (o_c0 (c_shown18 _) ?_)
  rintro _ w2 ⟨rfl, hc⟩
  have mm := mm.frame hc
  refine s1 (r_asb rfl) ?_
  refine wn ?_
  refine c_sreg rfl ?_
  refine s1 (r_mvs rfl) ?_
  refine so (o_c1 rfl (c_made l hin _ _ (hs0.fr mm.chg)) ?_)
  rintro _ w3 ⟨ms, ao, co, ab, cb, aa, ca, hms, rfl, hmd⟩
  have mm := mm.join hmd
  refine s1 (r_mvu rfl) ?_
  refine s1 (r_exts rfl rfl) ?_
  refine s1 (r_exts rfl rfl) ?_
  refine s1 (r_exts rfl rfl) ?_
  refine s1 (r_ass rfl) ?_
  refine s1 (r_ass rfl) ?_
  refine s1 (r_ass rfl) ?_
  refine wn ?_
  generalize madeR l 10 = rs at *
  have hml : ms.length = rs.length := by have := congrArg List.length hms; rw [List.length_map] at this; exact this
  have hwms := recW_all hms hok
  have hPm := putsR_mono rs
  have hPn : (putsR (rs.take rs.length)).length = (putsR rs).length := by rw [List.take_length]
  refine c_sreg rfl ?_
  refine s1 (r_mvs rfl) ?_
  refine so (o_c1 rfl (c_rAll rs hok [] stop_nil (by rw [List.append_nil]; omega) _ _ (Sl.own mm 1 rfl).nil2) ?_)
  rintro _ w4 ⟨ms2, a2, c2, hms2, rfl, hmd⟩
  have mm := mm.join hmd
  refine s1 (r_mvu rfl) ?_
  refine s1 (r_exts rfl rfl) ?_
  refine s1 (r_exti rfl rfl) ?_
  refine s1 (r_ass rfl) ?_
  refine s1 (r_asi rfl) ?_
  refine wn ?_
  have hwms2 := recW_all hms2 hok
  have hml2 : ms2.length = rs.length := by have := congrArg List.length hms2; rw [List.length_map] at this; exact this
  refine c_seq ?_
  refine c_sreg rfl ?_
  refine s1 (r_mvb rfl) ?_
  refine s1 (r_not rfl) ?_
  refine s1 (r_mvb rfl) ?_
  refine sF rfl rfl (fun h => r_mvi rfl) ?_
  refine sF rfl rfl (fun h => r_mvs rfl) ?_
  refine sF rfl rfl (fun h => r_len (sel_t h :)) ?_
  refine sF rfl rfl (fun h => r_ne (sel_t h :) (sel_t h :)) ?_
  refine s1 (r_or rfl rfl) ?_
  refine s1 (r_mvb rfl) ?_
  refine sF rfl rfl (fun h => r_mvs rfl) ?_
  refine sF rfl rfl (fun h => r_mvs rfl) ?_
  refine sFw (I := Sof mm) rfl rfl mm (fun h => o_c2 (sel_t h :) (sel_t h :) (c_same18 ms2 ms hwms2 hwms (by omega) _ _ _ (Slr.of mm 4 5 rfl rfl) (Slr.of mm 0 3 rfl rfl)) (fun _ _ hh => ⟨hh.1, mm.frame hh.2⟩)) (fun w5 mm => ?_)
  refine sF rfl rfl (fun h => r_not (sel_t h :)) ?_
  refine s1 (r_or rfl rfl) ?_
  refine wn ?_
  refine c_cond rfl (fun h => ?_) (fun h => (c_skip (t_n ?_)))
  · exfalso
    rw [hms, hms2] at h
    simp at h
  clear h
  generalize hk : cut % ((putsR rs).length + 1) = k
  have hkl : k ≤ (putsR rs).length := by rw [← hk]; have := Nat.mod_lt cut (show 0 < (putsR rs).length + 1 by omega); omega
  refine c_sreg rfl ?_
  refine s1 (r_mvi rfl) ?_
  refine s1 (r_cv rfl (wi (by omega) (by omega))) ?_
  refine s1 (r_mvs rfl) ?_
  refine s1 (r_len rfl) ?_
  refine s1 (r_add rfl rfl (show IntKind.i64.wrap _ = (((putsR rs).length + 1 : Nat) : Int) from wi (by omega) (by omega))) ?_
  refine s1 (r_rem rfl rfl (by omega) (show ((cut : Nat) : Int).tmod (((putsR rs).length + 1 : Nat) : Int) = ((k : Nat) : Int) from by rw [← hk]; exact nat_tmod _ _)) ?_
  refine s1 (r_asi rfl) ?_
  refine wn ?_
  refine c_sreg rfl ?_
  refine s1 (r_asi rfl) ?_
  refine wn ?_
  have mm := (mm.pk [0, 1, 2, 3] (by decide))
  refine c_seq ?_
  refine c_block ?_
  refine c_loop (fun kk e w' => ∃ i, kk + i = rs.length ∧ e 6 = .slice ao ms.length co ∧ e 7 = .slice ab (putsR rs).length cb ∧ e 8 = .slice aa rs.length ca ∧ e 11 = .int .i64 (k : Nat) ∧ e 12 = .int .i64 (i : Nat) ∧ Mem w No w' (mdL ms rs ao co ab cb aa ca) ∧ (putsR (rs.take i)).length ≤ k) rs.length ?_ ?_
  · exact ⟨0, rfl, rfl, rfl, rfl, rfl, rfl, mm, Nat.zero_le _⟩
  clear mm
  rintro kk e w9 ⟨i, hki, h6, h7, h8, h11, h12, mm, hPi⟩
  have hg : ∀ j : Int, (hj : j + 1 < rs.length) → 0 ≤ j → nth (offs rs rs.length) ((j + 1).toNat * 1) = some (.int .i64 ((putsR (rs.take (j + 1).toNat)).length : Nat)) := fun j hj h0 => by
    have h1 := offs_get rs rs.length (j + 1).toNat (by omega)
    rw [Int.toNat_natCast] at h1
    exact h1
  refine c_seq ?_
  refine c_sreg rfl ?_
  refine s1 (r_mvi h12) ?_
  refine s1 (r_mvs h8) ?_
  refine s1 (r_len rfl) ?_
  refine s1 (r_lt rfl rfl) ?_
  refine s1 (r_mvb rfl) ?_
  refine sT rfl rfl (fun h => r_mvi h12) ?_
  refine sT rfl rfl (fun h => r_add (sel_t h :) rfl (wi (by omega) (by omega))) ?_
  refine sT rfl rfl (fun h => r_mvs h8) ?_
  refine sT rfl rfl (fun h => r_len (sel_t h :)) ?_
  refine sT rfl rfl (fun h => r_lt (sel_t h :) (sel_t h :)) ?_
  refine sT rfl rfl (fun h => r_mvb (sel_t h :)) ?_
  refine sTs rfl rfl (fun h => r_mvs h8) ?_
  refine sTs rfl rfl (fun h => r_mvi h12) ?_
  refine sTs rfl rfl (fun h => r_add (sel_t h :) rfl (wi (by omega) (by omega))) ?_
  refine sTs rfl rfl (fun h => r_ix (sel_t h :) (sel_t h :) (by simp at h; omega) (by simp at h; omega) ((mm.c 2 rfl).some (hg i (by simp at h; omega) (by omega)))) ?_
  refine sTs rfl rfl (fun h => r_ldc (sel_t h :) (mm.c 2 rfl) (hg i (by simp at h; omega) (by omega))) ?_
  refine sTs rfl rfl (fun h => r_mvi h11) ?_
  refine sTs rfl rfl (fun h => r_le (sel_t h :) (sel_t h :)) ?_
  refine sT rfl rfl (fun h => r_and (sel_t h :) (sel_and h :)) ?_
  refine sT rfl rfl (fun h => r_mvb (sel_t h :)) ?_
  refine sFs rfl rfl (fun h => r_mvi h12) ?_
  refine sFs rfl rfl (fun h => r_add (sel_t h :) rfl (wi (by omega) (by omega))) ?_
  refine sFs rfl rfl (fun h => r_mvs h8) ?_
  refine sFs rfl rfl (fun h => r_len (sel_t h :)) ?_
  refine sFs rfl rfl (fun h => r_eq (sel_t h :) (sel_t h :)) ?_
  refine sFs rfl rfl (fun h => r_mvb (sel_t h :)) ?_
  refine sTs rfl rfl (fun h => r_mvs h7) ?_
  refine sTs rfl rfl (fun h => r_len (sel_t h :)) ?_
  refine sTs rfl rfl (fun h => r_mvi h11) ?_
  refine sTs rfl rfl (fun h => r_le (sel_t h :) (sel_t h :)) ?_
  refine sFs rfl rfl (fun h => r_and (sel_t h :) (sel_and h :)) ?_
  refine sT rfl rfl (fun h => r_or (sel_t h :) (sel_and h :)) ?_
  refine s1 (r_and rfl rfl) ?_
  refine wn ?_
  refine c_cond rfl (fun h => (c_skip (t_n ?_))) (fun h => (c_exit (t_x (t_x (b_x (t_n ?_))))))
  · have e1 : (((i : Nat) : Int) + 1).toNat = i + 1 := by omega
    rw [e1] at h
    have hi : i < rs.length := by simp at h; omega
    have hP : (putsR (rs.take (i + 1))).length ≤ k := by
      rcases Nat.lt_or_ge (i + 1) rs.length with h9 | h9
      · simp at h; omega
      · rw [List.take_of_length_le h9]; simp at h; omega
    clear h
    refine c_block ?_
    refine c_region rfl ?_
    refine s1 (r_mvi h12) ?_
    refine s1 (r_add rfl rfl (wi (by omega) (by omega))) ?_
    refine s1 (r_asi rfl) ?_
    refine wn (b_n (t_n ?_))
    exact ⟨kk - 1, by omega, i + 1, by omega, h6, h7, h8, h11, rfl, mm, hP⟩
  have hx : i = rs.length ∨ k < (putsR (rs.take (i + 1))).length := by
    have e1 : (((i : Nat) : Int) + 1).toNat = i + 1 := by omega
    rw [e1] at h
    rcases Nat.lt_or_ge (i + 1) rs.length with h9 | h9
    · right; simp at h; omega
    · rcases Nat.lt_or_ge i rs.length with h8' | h8'
      · right; rw [List.take_of_length_le h9]; simp at h; omega
      · left; omega
  clear h
  have hil : i ≤ rs.length := by omega
  obtain ⟨t, hst, htk⟩ := cut_split rs hok i k hil hPi hx hkl
  have hokt : ∀ x ∈ rs.take i, RecOk x := fun x hx => hok x (List.mem_of_mem_take hx)
  have hcb := own_le (mm.o 1 rfl)
  have hslk : ∀ w', Cells w' ab (u8s (putsR rs)) → Sl w' (.slice ab ((k : Nat) : Int).toNat cb) (putsR (rs.take i) ++ t) := fun w' Hw => by
    have h9 := Sl.pre Hw hcb k hkl
    rw [htk] at h9
    exact h9
  have htl : (putsR (rs.take i) ++ t).length ≤ 1000000000 := by rw [← htk, List.length_take]; omega
  refine c_sreg rfl ?_
  refine s1 (r_mvs h7) ?_
  refine s1 (r_mvi h11) ?_
  refine s1 (r_slh rfl rfl (by omega) (by omega)) ?_
  refine so (o_c1 rfl (c_rAll (rs.take i) hokt t hst htl _ _ (hslk _ (mm.c 1 rfl))) ?_)
  rintro _ w6 ⟨ms3, a3, c3, hms3, rfl, hmd⟩
  have mm := mm.join hmd
  refine s1 (r_mvu rfl) ?_
  refine s1 (r_exts rfl rfl) ?_
  refine s1 (r_exti rfl rfl) ?_
  refine s1 (r_ass rfl) ?_
  refine s1 (r_asi rfl) ?_
  refine wn ?_
  refine c_sreg rfl ?_
  refine s1 (r_mvs h7) ?_
  refine s1 (r_len rfl) ?_
  refine s1 (r_asi rfl) ?_
  refine wn ?_
  refine c_seq ?_
  refine c_sreg rfl ?_
  refine s1 (r_mvi h12) ?_
  refine s1 (r_mvs h8) ?_
  refine s1 (r_len rfl) ?_
  refine s1 (r_lt rfl rfl) ?_
  refine wn ?_
  refine c_mid0 (fun e w' => e 6 = .slice ao ms.length co ∧ e 11 = .int .i64 (k : Nat) ∧ e 12 = .int .i64 (i : Nat) ∧ e 13 = .slice a3 ms3.length c3 ∧ e 14 = .int .i64 ((putsR (rs.take i)).length : Nat) ∧ e 15 = .int .i64 ((putsR (rs.take i)).length : Nat) ∧ Mem w No w' (mdL ms rs ao co ab cb aa ca ++ [own 43 9 a3 ms3.length c3 (rmsC ms3), evi ms3])) ?_ ?_
  · refine c_cond rfl (fun h => ?_) (fun h => (c_skip (t_n ?_)))
    · have hi : i < rs.length := by simp at h; omega
      refine c_region rfl ?_
      refine s1 (r_mvs h8) ?_
      refine s1 (r_mvi h12) ?_
      refine s1 (r_ix rfl rfl (by omega) (by omega) ((mm.c 2 rfl).some (offs_get rs rs.length i hi))) ?_
      refine s1 (r_ldc rfl (mm.c 2 rfl) (offs_get rs rs.length i hi)) ?_
      refine s1 (r_asi rfl) ?_
      refine wn (t_n ?_)
      exact ⟨h6, h11, h12, rfl, rfl, rfl, mm⟩
    · have hi : i = rs.length := by simp at h; omega
      refine ⟨h6, h11, h12, rfl, rfl, ?_, mm⟩
      rw [hi, hPn]; rfl
  clear mm h6 h11 h12
  rintro e w9 ⟨h6, h11, h12, h13, h14, h15, mm⟩
  have hco := own_le (mm.o 0 rfl)
  have hwms3 := recW_all hms3 hokt
  have hml3 : ms3.length = i := by have := congrArg List.length hms3; rw [List.length_map, List.length_take] at this; omega
  have hmst : (ms.take i).map (·.1) = rs.take i := by rw [List.map_take, hms]
  have hwmt := recW_all hmst hokt
  refine c_sreg rfl ?_
  refine s1 (r_mvs h13) ?_
  refine s1 (r_mvs h6) ?_
  refine s1 (r_mvi h12) ?_
  refine s1 (r_slh rfl rfl (by omega) (by omega)) ?_
  refine so (o_c2 rfl rfl (c_same18 ms3 (ms.take i) hwms3 hwmt (by omega) _ _ _ (Slr.of mm 4 5 rfl rfl) ((Slr.of mm 0 3 rfl rfl).take i (by omega))) ?_)
  rintro _ w7 ⟨rfl, hc⟩
  have mm := mm.frame hc
  refine s1 (r_mvb rfl) ?_
  refine sT rfl rfl (fun h => r_mvi h14) ?_
  refine sT rfl rfl (fun h => r_mvi h15) ?_
  refine sT rfl rfl (fun h => r_eq (sel_t h :) (sel_t h :)) ?_
  refine s1 (r_and rfl rfl) ?_
  refine s1 (r_mvb rfl) ?_
  refine sT rfl rfl (fun h => r_mvi h14) ?_
  refine sT rfl rfl (fun h => r_mvi h11) ?_
  refine sT rfl rfl (fun h => r_le (sel_t h :) (sel_t h :)) ?_
  refine s1 (r_and rfl rfl) ?_
  refine s1 (r_asb rfl) ?_
  refine wn ?_
  refine c_ret (ret1 rfl rfl ⟨congrArg Value.bool (?_ : _ = true), mm.chg⟩)
  rw [hms3, hmst]
  simp
  omega
end Go.Proofs.Ytgdbbaggkoillaa

