/- kithref02.Open, kithref07.in, clock, events: walks. -/
import Derived.Test.YtbcpabfemejlgaaM10
import Derived.Test.YtbcpabfemejlgaaM8
import Derived.Test.YtbcpabfemejlgaaM6
namespace Go.Proofs.Ytbcpabfemejlgaa
open K
set_option maxRecDepth 100000
set_option maxHeartbeats 4000000

theorem openL_is (b : List UInt8) (h4 : 4 ≤ b.length) : openL b = if sealL (b.take (b.length - 4)) = b then some (b.take (b.length - 4)) else none := by
  unfold openL
  rw [if_neg (by omega)]
  have h1 : (sealL (b.take (b.length - 4)) = b) ↔ (four (crcSum (b.take (b.length - 4))) = b.drop (b.length - 4)) := by
    constructor
    · intro h
      conv => rhs; rw [← h]
      unfold sealL
      rw [List.drop_left' (by rw [List.length_take, List.length_append, four_length, List.length_take]; omega)]
    · intro h
      unfold sealL
      rw [h, List.take_append_drop]
  by_cases h : four (crcSum (b.take (b.length - 4))) = b.drop (b.length - 4)
  · rw [if_pos h, if_pos (h1.2 h)]
  · rw [if_neg h, if_neg (fun hh => h (h1.1 hh))]
theorem c_in07 (n : Int) (w : World) : Cl Try.prog 43 #[.int .i64 n] w (fun v w' => v = .bool (inEv n) ∧ Chg No w w') := by
  refine f_enter (args := [_]) Try.func43 rfl rfl ?_
  have mm := Mem.nil No w
  refine c_sreg rfl ?_
  refine s1 (r_asb rfl) ?_
  refine wn ?_
  refine c_sreg rfl ?_
  refine s1 (r_mvi rfl) ?_
  refine s1 (r_ge rfl rfl) ?_
  refine s1 (r_mvb rfl) ?_
  refine sT rfl rfl (fun h => r_mvi rfl) ?_
  refine sT rfl rfl (fun h => r_le (sel_t h :) rfl) ?_
  refine s1 (r_and rfl rfl) ?_
  refine s1 (r_asb rfl) ?_
  refine wn ?_
  exact c_ret (ret1 rfl rfl ⟨rfl, mm.chg⟩)
theorem c_clock07 (c : Clk) (w : World) : Cl Try.prog 44 #[.agg (clkC c).toArray] w (fun v w' => v = .bool (c.all inEv) ∧ Chg No w w') := by
  refine f_enter (args := [_]) Try.func44 rfl rfl ?_
  have mm := Mem.nil No w
  refine c_sreg rfl ?_
  refine so (o_bxa mm rfl fun b2 w2 mm => ?_)
  refine s1 (r_asb rfl) ?_
  refine wn ?_
  have mm : Mem w No _ [bk b2 (clkC c) 31] := mm
  refine c_seq ?_
  refine c_sreg rfl ?_
  refine s1 (r_asi rfl) ?_
  refine wn ?_
  refine c_block ?_
  refine c_loop (fun kk e w' => ∃ i : Nat, kk + i = 5 ∧ e 1 = .pointer (some ⟨b2, 0, none⟩) ∧ e 3 = .int .i64 (i : Nat) ∧ Mem w No w' [bk b2 (clkC c) 31] ∧ ∀ j, j < i → inEv (c.get j) = true) 5 ?_ ?_
  · exact ⟨0, rfl, rfl, rfl, mm, fun j hj => absurd hj (by omega)⟩
  clear mm
  rintro kk e w9 ⟨i, hki, h1, h3, mm, hh⟩
  refine c_seq ?_
  refine c_sreg rfl ?_
  refine s1 (r_mvi h3) ?_
  refine s1 (r_lt rfl rfl) ?_
  refine wn ?_
  refine c_cond rfl (fun h => (c_skip (t_n ?_))) (fun h => (c_exit (t_x (t_x (b_x (t_n ?_))))))
  · have hi : i < 5 := by simp at h; omega
    clear h
    refine c_seq ?_
    refine c_block ?_
    refine c_sreg rfl ?_
    refine s1 (r_mvi h3) ?_
    refine s1 (r_ixa h1 rfl (by omega) (by omega)) ?_
    refine s1 (r_ld rfl (mm.b 0 rfl) (by simp only [Nat.mul_one, Nat.zero_add]; exact nth_clk c i hi)) ?_
    refine so (o_c1 rfl (c_in07 _ _) ?_)
    rintro _ w3 ⟨rfl, hc⟩
    have mm := mm.frame hc
    refine s1 (r_not rfl) ?_
    refine wn ?_
    refine c_cond rfl (fun h => ?_) (fun h => (c_skip (b_n (t_n ?_))))
    · refine c_sreg rfl ?_
      refine s1 (r_asb rfl) ?_
      refine wn ?_
      refine c_ret (ret1 rfl rfl ⟨congrArg Value.bool ?_, mm.chg⟩)
      cases ha : c.all inEv with
      | false => rfl
      | true => rw [(Clk.all_iff _ _).1 ha i hi] at h; cases h
    have hin : inEv (c.get i) = true := by simpa using h
    clear h
    refine c_region rfl ?_
    refine s1 (r_mvi h3) ?_
    refine s1 (r_add rfl rfl (wi (by omega) (by omega))) ?_
    refine s1 (r_asi rfl) ?_
    refine wn (t_n ?_)
    refine ⟨kk - 1, by omega, i + 1, by omega, h1, rfl, mm, fun j hj => ?_⟩
    rcases Nat.lt_or_ge j i with hlt | hge
    · exact hh j hlt
    · obtain rfl : j = i := by omega
      exact hin
  have hi : i = 5 := by simp at h; omega
  subst hi
  clear h
  refine c_sreg rfl ?_
  refine s1 (r_asb rfl) ?_
  refine wn ?_
  refine c_ret (ret1 rfl rfl ⟨congrArg Value.bool ?_, mm.chg⟩)
  exact ((Clk.all_iff _ _).2 hh).symm

theorem all_snoc {α : Type} (l : List α) (p : α → Bool) (i : Nat) (hi : i < l.length) (h : (l.take i).all p = true) (hp : p l[i] = true) : (l.take (i + 1)).all p = true := by
  rw [List.take_succ_eq_append_getElem hi, List.all_append, h, List.all_cons, hp]; rfl
theorem all_not {α : Type} (l : List α) (p : α → Bool) (i : Nat) (hi : i < l.length) (hp : p l[i] = false) : l.all p = false := by
  cases h : l.all p with
  | false => rfl
  | true => rw [List.all_eq_true.1 h l[i] (List.getElem_mem hi)] at hp; cases hp
theorem c_events07 (l : List Ev) {a : Option Addr} {cap : Nat} (hl : l.length ≤ 1000000000000000) (w : World) (H : Cells w a (evsC l)) : Cl Try.prog 42 #[.slice a l.length cap] w (fun v w' => v = .bool (l.all (fun y => decide (evMay y = 0)) && decide (((l.length : Nat) : Int) ≤ 20)) ∧ Chg No w w') := by
  refine f_enter (args := [_]) Try.func42 rfl rfl ?_
  have mm := Mem.nil No w
  refine c_sreg rfl ?_
  refine s1 (r_asb rfl) ?_
  refine wn ?_
  refine c_seq ?_
  refine c_sreg rfl ?_
  refine s1 (r_asi rfl) ?_
  refine wn ?_
  refine c_block ?_
  refine c_loop (fun kk e w' => ∃ i : Nat, kk + i = l.length ∧ e 0 = .slice a l.length cap ∧ e 3 = .int .i64 (i : Nat) ∧ Mem w No w' [] ∧ (l.take i).all (fun y => decide (evMay y = 0)) = true) l.length ?_ ?_
  · exact ⟨0, rfl, rfl, rfl, mm, rfl⟩
  clear mm
  rintro kk e w9 ⟨i, hki, h0, h3, mm, hh⟩
  refine c_seq ?_
  refine c_sreg rfl ?_
  refine s1 (r_mvi h3) ?_
  refine s1 (r_mvs h0) ?_
  refine s1 (r_len rfl) ?_
  refine s1 (r_lt rfl rfl) ?_
  refine wn ?_
  refine c_cond rfl (fun h => (c_skip (t_n ?_))) (fun h => (c_exit (t_x (t_x (b_x (t_n ?_))))))
  · have hi : i < l.length := by simp at h; omega
    clear h
    refine c_seq ?_
    refine c_block ?_
    refine c_sreg rfl ?_
    refine s1 (r_mvs h0) ?_
    refine s1 (r_mvi h3) ?_
    refine s1 (r_ix rfl rfl (by omega) (by omega) (evs_some H hi)) ?_
    refine s1 (r_ldce rfl (mm.ro H) (seg_evs l i hi) (evs_le l i hi) (by decide)) ?_
    refine so (o_c1 rfl (c_may6 _ _) ?_)
    rintro _ w2 ⟨rfl, hc⟩
    have mm := mm.frame hc
    refine s1 (r_ne rfl rfl) ?_
    refine wn ?_
    refine c_cond rfl (fun h => ?_) (fun h => (c_skip (b_n (t_n ?_))))
    · refine c_sreg rfl ?_
      refine s1 (r_asb rfl) ?_
      refine wn ?_
      refine c_ret (ret1 rfl rfl ⟨congrArg Value.bool ?_, mm.chg⟩)
      rw [all_not l _ i hi (by simpa using h)]; rfl
    have hin : decide (evMay l[i] = 0) = true := by simpa using h
    clear h
    refine c_region rfl ?_
    refine s1 (r_mvi h3) ?_
    refine s1 (r_add rfl rfl (wi (by omega) (by omega))) ?_
    refine s1 (r_asi rfl) ?_
    refine wn (t_n ?_)
    exact ⟨kk - 1, by omega, i + 1, by omega, h0, rfl, mm, all_snoc l _ i hi hh hin⟩
  have hi : i = l.length := by simp at h; omega
  subst hi
  clear h
  rw [List.take_length] at hh
  refine c_sreg rfl ?_
  refine s1 (r_mvs h0) ?_
  refine s1 (r_len rfl) ?_
  refine s1 (r_le rfl rfl) ?_
  refine s1 (r_asb rfl) ?_
  refine wn ?_
  rw [hh]
  exact c_ret (ret1 rfl rfl ⟨rfl, mm.chg⟩)
end Go.Proofs.Ytbcpabfemejlgaa
/- frame.has, fits, may: walks. -/
namespace Go.Proofs.Ytbcpabfemejlgaa
open K
set_option maxRecDepth 100000
set_option maxHeartbeats 4000000

def hasM : List MapEntry := [⟨.int .i64 1, .int .i64 1, 0⟩, ⟨.int .i64 2, .int .i64 2, 1⟩, ⟨.int .i64 3, .int .i64 3, 2⟩, ⟨.int .i64 4, .int .i64 1, 3⟩, ⟨.int .i64 5, .int .i64 3, 4⟩]
theorem hasM_find (k : Int) : ∃ r, Instr.findNow (.int .i64) (.int .i64 k) hasM 0 = some r ∧ lkV r (.int .i64 0) = Value.int .i64 (fHas k) := by
  by_cases h1 : k = 1
  · subst h1; exact ⟨_, rfl, rfl⟩
  by_cases h2 : k = 2
  · subst h2; exact ⟨_, rfl, rfl⟩
  by_cases h3 : k = 3
  · subst h3; exact ⟨_, rfl, rfl⟩
  by_cases h4 : k = 4
  · subst h4; exact ⟨_, rfl, rfl⟩
  by_cases h5 : k = 5
  · subst h5; exact ⟨_, rfl, rfl⟩
  have g : ∀ n : Int, k ≠ n → (k == n) = false := fun n h => by simp [h]
  refine ⟨none, ?_, ?_⟩
  · simp [Instr.findNow, Instr.sameNow, hasM, g 1 h1, g 2 h2, g 3 h3, g 4 h4, g 5 h5]
  · show Value.int .i64 0 = _
    unfold fHas
    rw [if_neg h1, if_neg h2, if_neg h3, if_neg h4, if_neg h5]
theorem c_has (k : Int) (w : World) : Cl Try.prog 50 #[.int .i64 k] w (fun v w' => v = .int .i64 (fHas k) ∧ Chg No w w') := by
  obtain ⟨r, hr1, hr2⟩ := hasM_find k
  refine f_enter (args := [_]) Try.func50 rfl rfl ?_
  have mm := Mem.nil No w
  refine c_sreg rfl ?_
  refine s1 (r_asi rfl) ?_
  refine wn ?_
  refine c_sreg rfl ?_
  refine so (o_mkm mm fun b2 w2 mm => ?_)
  refine ss (o_insi mm 0 rfl Try.underlying133 Try.underlying3 rfl rfl rfl rfl fun w3 mm => ?_)
  refine ss (o_insi mm 0 rfl Try.underlying133 Try.underlying3 rfl rfl rfl rfl fun w4 mm => ?_)
  refine ss (o_insi mm 0 rfl Try.underlying133 Try.underlying3 rfl rfl rfl rfl fun w5 mm => ?_)
  refine ss (o_insi mm 0 rfl Try.underlying133 Try.underlying3 rfl rfl rfl rfl fun w6 mm => ?_)
  refine ss (o_insi mm 0 rfl Try.underlying133 Try.underlying3 rfl rfl rfl rfl fun w7 mm => ?_)
  refine s1 (r_mvm rfl) ?_
  refine s1 (r_mvi rfl) ?_
  refine s1 (r_lki mm 0 rfl Try.underlying133 Try.underlying3 (by kernel_rfl) rfl rfl hr1 hr2) ?_
  refine s1 (r_asi rfl) ?_
  refine wn ?_
  exact c_ret (ret1 rfl rfl ⟨rfl, mm.chg⟩)
theorem c_fFits (n : Int) (w : World) : Cl Try.prog 74 #[.int .i64 n] w (fun v w' => v = .bool (inEv n) ∧ Chg No w w') := by
  refine f_enter (args := [_]) Try.func74 rfl rfl ?_
  have mm := Mem.nil No w
  refine c_sreg rfl ?_
  refine s1 (r_asb rfl) ?_
  refine wn ?_
  refine c_sreg rfl ?_
  refine s1 (r_mvi rfl) ?_
  refine s1 (r_ge rfl rfl) ?_
  refine s1 (r_mvb rfl) ?_
  refine sT rfl rfl (fun h => r_mvi rfl) ?_
  refine sT rfl rfl (fun h => r_le (sel_t h :) rfl) ?_
  refine s1 (r_and rfl rfl) ?_
  refine s1 (r_asb rfl) ?_
  refine wn ?_
  exact c_ret (ret1 rfl rfl ⟨rfl, mm.chg⟩)

theorem c_frMay (x : Rec) {a : Option Addr} {cap : Nat} (w : World) (H : Cells w a (evsC x.es)) (hw : ClkW x.c) : Cl Try.prog 49 #[.agg (recV x a cap).toArray] w (fun v w' => v = .bool (frMay x) ∧ Chg No w w') := by
  refine f_enter (args := [_]) Try.func49 rfl rfl ?_
  have mm := Mem.nil No w
  refine c_sreg rfl ?_
  refine so (o_bxa mm rfl fun b2 w2 mm => ?_)
  refine s1 (r_asb rfl) ?_
  refine wn ?_
  refine c_sreg rfl ?_
  refine s1 (r_fa rfl) ?_
  refine s1 (r_ld rfl (mm.b 0 rfl) rfl) ?_
  refine so (o_c1 rfl (c_has x.kind _) ?_)
  rintro _ w3 ⟨rfl, hc⟩
  have mm := mm.frame hc
  refine s1 (r_asi rfl) ?_
  refine wn ?_
  refine c_seq ?_
  refine c_sreg rfl ?_
  refine s1 (r_mvi rfl) ?_
  refine s1 (r_eq rfl rfl) ?_
  refine s1 (r_mvb rfl) ?_
  refine sF rfl rfl (fun h => r_fa rfl) ?_
  refine sF rfl rfl (fun h => r_ld (sel_t h :) (mm.b 0 rfl) rfl) ?_
  refine sF rfl rfl (fun h => r_lt (sel_t h :) rfl) ?_
  refine s1 (r_or rfl rfl) ?_
  refine s1 (r_mvb rfl) ?_
  refine sF rfl rfl (fun h => r_fa rfl) ?_
  refine sF rfl rfl (fun h => r_ld (sel_t h :) (mm.b 0 rfl) rfl) ?_
  refine sF rfl rfl (fun h => r_ge (sel_t h :) rfl) ?_
  refine s1 (r_or rfl rfl) ?_
  refine s1 (r_mvb rfl) ?_
  refine sF rfl rfl (fun h => r_mvi rfl) ?_
  refine sF rfl rfl (fun h => r_ne (sel_t h :) rfl) ?_
  refine sF rfl rfl (fun h => r_mvb (sel_t h :)) ?_
  refine sTs rfl rfl (fun h => r_fa rfl) ?_
  refine sTs rfl rfl (fun h => r_ld (sel_t h :) (mm.b 0 rfl) rfl) ?_
  refine sTs rfl rfl (fun h => r_len (sel_t h :)) ?_
  refine sTs rfl rfl (fun h => r_gt (sel_t h :) rfl) ?_
  refine sF rfl rfl (fun h => r_and (sel_t h :) (sel_and h :)) ?_
  refine s1 (r_or rfl rfl) ?_
  refine s1 (r_mvb rfl) ?_
  refine sF rfl rfl (fun h => r_mvi rfl) ?_
  refine sF rfl rfl (fun h => r_ne (sel_t h :) rfl) ?_
  refine sF rfl rfl (fun h => r_mvb (sel_t h :)) ?_
  refine sTs rfl rfl (fun h => r_fa rfl) ?_
  refine sTs rfl rfl (fun h => r_ld (sel_t h :) (mm.b 0 rfl) rfl) ?_
  refine sTs rfl rfl (fun h => r_ne (sel_t h :) rfl) ?_
  refine sF rfl rfl (fun h => r_and (sel_t h :) (sel_and h :)) ?_
  refine s1 (r_or rfl rfl) ?_
  refine s1 (r_mvb rfl) ?_
  refine sF rfl rfl (fun h => r_mvi rfl) ?_
  refine sF rfl rfl (fun h => r_ne (sel_t h :) rfl) ?_
  refine sF rfl rfl (fun h => r_mvb (sel_t h :)) ?_
  refine sTs rfl rfl (fun h => r_fa rfl) ?_
  refine sTs rfl rfl (fun h => r_lda (sel_t h :) (mm.b 0 rfl) rfl) ?_
  refine sTs rfl rfl (fun h => r_bd bN rfl) ?_
  refine sTs rfl rfl (fun h => r_nea clk_guard (clk_eq _ _ hw clk0_w) (sel_t h :) (sel_t h :)) ?_
  refine sF rfl rfl (fun h => r_and (sel_t h :) (sel_and h :)) ?_
  refine s1 (r_or rfl rfl) ?_
  refine wn ?_
  refine c_cond rfl (fun h => ?_) (fun h => (c_skip (t_n ?_)))
  · refine c_sreg rfl ?_
    refine s1 (r_asb rfl) ?_
    refine wn ?_
    refine c_ret (ret1 rfl rfl ⟨congrArg Value.bool (?_ : false = frMay x), mm.chg⟩)
    have h : mayFA x = true := h
    rw [frMay_abc, h]; rfl
  have hA : mayFA x = false := h
  clear h
  refine c_seq ?_
  refine c_sreg rfl ?_
  refine s1 (r_fa rfl) ?_
  refine s1 (r_ld rfl (mm.b 0 rfl) rfl) ?_
  refine s1 (r_eq rfl rfl) ?_
  refine s1 (r_mvb rfl) ?_
  refine sT rfl rfl (fun h => r_fa rfl) ?_
  refine sT rfl rfl (fun h => r_ld (sel_t h :) (mm.b 0 rfl) rfl) ?_
  refine sT rfl rfl (fun h => r_len (sel_t h :)) ?_
  refine sT rfl rfl (fun h => r_eq (sel_t h :) rfl) ?_
  refine s1 (r_and rfl rfl) ?_
  refine s1 (r_mvb rfl) ?_
  refine sF rfl rfl (fun h => r_fa rfl) ?_
  refine sF rfl rfl (fun h => r_ld (sel_t h :) (mm.b 0 rfl) rfl) ?_
  refine sF rfl rfl (fun h => r_len (sel_t h :)) ?_
  refine sF rfl rfl (fun h => r_gt (sel_t h :) rfl) ?_
  refine s1 (r_or rfl rfl) ?_
  refine s1 (r_mvb rfl) ?_
  refine sF rfl rfl (fun h => r_fa rfl) ?_
  refine sF rfl rfl (fun h => r_ld (sel_t h :) (mm.b 0 rfl) rfl) ?_
  refine sFw (I := Sof mm) rfl rfl mm (fun h => o_c1 (sel_t h :) (c_fFits x.upto _) (fun _ _ hh => ⟨hh.1, mm.frame hh.2⟩)) (fun w4 mm => ?_)
  refine sF rfl rfl (fun h => r_not (sel_t h :)) ?_
  refine s1 (r_or rfl rfl) ?_
  refine wn ?_
  refine c_cond rfl (fun h => ?_) (fun h => (c_skip (t_n ?_)))
  · refine c_sreg rfl ?_
    refine s1 (r_asb rfl) ?_
    refine wn ?_
    refine c_ret (ret1 rfl rfl ⟨congrArg Value.bool (?_ : false = frMay x), mm.chg⟩)
    have h : mayFB x = true := h
    rw [frMay_abc, h, hA]; rfl
  have hB : mayFB x = false := h
  clear h
  have hlen : x.es.length ≤ 20 := by
    unfold mayFB at hB
    simp at hB
    omega
  have mm : Mem w No _ [bk b2 (recV x a cap) 40] := mm.pk [0] (by decide)
  refine c_seq ?_
  refine c_sreg rfl ?_
  refine s1 (r_fa rfl) ?_
  refine s1 (r_lda rfl (mm.b 0 rfl) rfl) ?_
  refine s1 (r_mvi rfl) ?_
  refine wn ?_
  refine c_block ?_
  refine c_loop (fun k e w' => ∃ i, k + i = 5 ∧ e 1 = .pointer (some ⟨b2, 0, none⟩) ∧ e 74 = .agg (clkC x.c).toArray ∧ e 75 = .int .i64 (i : Nat) ∧ Mem w No w' [bk b2 (recV x a cap) 40] ∧ ∀ j, j < i → inEv (x.c.get j) = true) 5 ?_ ?_
  · exact ⟨0, rfl, rfl, rfl, rfl, mm, fun j hj => absurd hj (by omega)⟩
  clear mm
  rintro k e w9 ⟨i, hki, h1, h74, h75, mm, hall⟩
  refine c_sreg rfl ?_
  refine s1 (r_lt h75 rfl) ?_
  refine wn ?_
  refine c_seq ?_
  refine c_cond rfl (fun h => (c_skip (t_n ?_))) (fun h => (c_exit (t_x (t_x (b_x (t_n ?_))))))
  · have hi : i < 5 := by simp at h; omega
    clear h
    refine c_seq ?_
    refine c_block ?_
    refine c_sreg rfl ?_
    refine s1 (r_ixv h74 h75 (by omega) (by omega) (nth_clk x.c _ (by omega))) ?_
    refine s1 (r_asi rfl) ?_
    refine wn ?_
    refine c_sreg rfl ?_
    refine s1 (r_mvi rfl) ?_
    refine so (o_c1 rfl (c_fFits _ _) ?_)
    rintro _ w5 ⟨rfl, hc⟩
    have mm := mm.frame hc
    refine s1 (r_not rfl) ?_
    refine wn ?_
    refine c_cond rfl (fun h => ?_) (fun h => (c_skip (b_n (t_n ?_))))
    · refine c_sreg rfl ?_
      refine s1 (r_asb rfl) ?_
      refine wn ?_
      refine c_ret (ret1 rfl rfl ⟨congrArg Value.bool (?_ : false = frMay x), mm.chg⟩)
      have h9 : x.c.all inEv = false := by
        cases hq : x.c.all inEv with
        | false => rfl
        | true =>
          have := (Clk.all_iff _ _).1 hq i hi
          simp at h
          rw [this] at h; cases h
      rw [frMay_abc, h9, Bool.and_false]; rfl
    refine c_region rfl ?_
    refine s1 (r_add h75 rfl (wi (by omega) (by omega))) ?_
    refine s1 (r_mvi rfl) ?_
    refine wn (t_n ?_)
    refine ⟨k - 1, by omega, i + 1, by omega, h1, h74, rfl, mm, ?_⟩
    intro j hj
    rcases Nat.lt_or_ge j i with hlt | hge
    · exact hall j hlt
    · obtain rfl : j = i := by omega
      simpa using h
  have hi : i = 5 := by simp at h; omega
  subst hi
  clear h
  have hC : x.c.all inEv = true := (Clk.all_iff _ _).2 hall
  refine c_seq ?_
  refine c_sreg rfl ?_
  refine s1 (r_fa h1) ?_
  refine s1 (r_ld rfl (mm.b 0 rfl) rfl) ?_
  refine s1 (r_len rfl) ?_
  refine s1 (r_mvi rfl) ?_
  refine wn ?_
  refine c_block ?_
  refine c_loop (fun k e w' => ∃ i, k + i = x.es.length ∧ e 1 = .pointer (some ⟨b2, 0, none⟩) ∧ e 83 = .slice a x.es.length cap ∧ e 84 = .int .i64 (x.es.length : Nat) ∧ e 85 = .int .i64 (i : Nat) ∧ Mem w No w' [bk b2 (recV x a cap) 40] ∧ ∀ j, (h : j < x.es.length) → j < i → (decide (evMay x.es[j] = 0) && (decide (x.kind ≠ 1) || decide (x.es[j].r = x.r))) = true) x.es.length ?_ ?_
  · exact ⟨0, rfl, h1, rfl, rfl, rfl, mm, fun j _ hj => absurd hj (by omega)⟩
  clear mm
  rintro k e w9 ⟨i, hki, h1, h83, h84, h85, mm, hall⟩
  refine c_sreg rfl ?_
  refine s1 (r_lt h85 h84) ?_
  refine wn ?_
  refine c_seq ?_
  refine c_cond rfl (fun h => (c_skip (t_n ?_))) (fun h => (c_exit (t_x (t_x (b_x (t_n ?_))))))
  · have hi : i < x.es.length := by simp at h; omega
    clear h
    refine c_seq ?_
    refine c_block ?_
    refine c_sreg rfl ?_
    refine s1 (r_ix h83 h85 (by omega) (by omega) (evs_some H hi)) ?_
    refine s1 (r_ldce rfl (mm.ro H) (seg_evs x.es i hi) (evs_le x.es i hi) (by decide)) ?_
    refine so (o_al mm fun b6 w6 mm => ?_)
    refine ss (o_sta mm 1 rfl rfl rfl rfl rfl (Nat.le_of_ble_eq_true rfl) fun w7 mm => ?_)
    refine wn ?_
    refine c_sreg rfl ?_
    refine s1 (r_lda rfl (mm.b 1 rfl) rfl) ?_
    refine so (o_c1 rfl (c_may _ _) ?_)
    rintro _ w8 ⟨rfl, hc⟩
    have mm := mm.frame hc
    refine s1 (r_ne rfl rfl) ?_
    refine s1 (r_mvb rfl) ?_
    refine sF rfl rfl (fun h => r_fa h1) ?_
    refine sF rfl rfl (fun h => r_ld (sel_t h :) (mm.b 0 rfl) rfl) ?_
    refine sF rfl rfl (fun h => r_eq (sel_t h :) rfl) ?_
    refine sF rfl rfl (fun h => r_mvb (sel_t h :)) ?_
    refine sTs rfl rfl (fun h => r_fa rfl) ?_
    refine sTs rfl rfl (fun h => r_ld (sel_t h :) (mm.b 1 rfl) rfl) ?_
    refine sTs rfl rfl (fun h => r_fa h1) ?_
    refine sTs rfl rfl (fun h => r_ld (sel_t h :) (mm.b 0 rfl) rfl) ?_
    refine sTs rfl rfl (fun h => r_ne (sel_t h :) (sel_t h :)) ?_
    refine sF rfl rfl (fun h => r_and (sel_t h :) (sel_and h :)) ?_
    refine s1 (r_or rfl rfl) ?_
    refine wn ?_
    refine c_cond rfl (fun h => ?_) (fun h => (c_skip (b_n (t_n ?_))))
    · refine c_sreg rfl ?_
      refine s1 (r_asb rfl) ?_
      refine wn ?_
      refine c_ret (ret1 rfl rfl ⟨congrArg Value.bool (?_ : false = frMay x), mm.chg⟩)
      have h9 : x.es.all (fun y => decide (evMay y = 0) && (decide (x.kind ≠ 1) || decide (y.r = x.r))) = false := by
        cases hq : x.es.all (fun y => decide (evMay y = 0) && (decide (x.kind ≠ 1) || decide (y.r = x.r))) with
        | false => rfl
        | true =>
          have := List.all_eq_true.1 hq x.es[i] (List.getElem_mem hi)
          simp only [Bool.and_eq_true, Bool.or_eq_true, decide_eq_true_eq] at this
          simp at h
          rcases this.2 with h8 | h8
          · rcases h with h | h
            · exact absurd this.1 h
            · exact absurd h.1 h8
          · rcases h with h | h
            · exact absurd this.1 h
            · exact absurd h8 h.2
      rw [frMay_abc, h9, Bool.and_false]
    refine c_region rfl ?_
    refine s1 (r_add h85 rfl (wi (by omega) (by omega))) ?_
    refine s1 (r_mvi rfl) ?_
    refine wn (t_n ?_)
    refine ⟨k - 1, by omega, i + 1, by omega, h1, h83, h84, rfl, mm.pk [0] (by decide), ?_⟩
    intro j hj hji
    rcases Nat.lt_or_ge j i with hlt | hge
    · exact hall j hj hlt
    · obtain rfl : j = i := by omega
      simp at h
      simp only [Bool.and_eq_true, Bool.or_eq_true, decide_eq_true_eq]
      refine ⟨h.1, ?_⟩
      by_cases hk : x.kind = 1
      · exact .inr (h.2 hk)
      · exact .inl hk
  have hi : i = x.es.length := by simp at h; omega
  subst hi
  clear h
  refine c_sreg rfl ?_
  refine s1 (r_asb rfl) ?_
  refine wn ?_
  refine c_ret (ret1 rfl rfl ⟨congrArg Value.bool (?_ : true = frMay x), mm.chg⟩)
  have h9 : x.es.all (fun y => decide (evMay y = 0) && (decide (x.kind ≠ 1) || decide (y.r = x.r))) = true := by
    rw [List.all_eq_true]
    intro y hy
    obtain ⟨j, hj, rfl⟩ := List.mem_iff_getElem.1 hy
    exact hall j hj hj
  rw [frMay_abc, h9, hC, hA, hB]; rfl
end Go.Proofs.Ytbcpabfemejlgaa
/- kithref07.May: the walk. -/
namespace Go.Proofs.Ytbcpabfemejlgaa
open K
set_option maxRecDepth 100000
set_option maxHeartbeats 4000000

theorem tf {P : Prop} (h : true = false) : P := nomatch h
theorem ft {P : Prop} (h : false = true) : P := nomatch h
theorem frMay_no {k r u : Int} {c : Clk} {es : List Ev} (h : ¬ (0 ≤ r ∧ r ≤ 4)) : frMay ⟨k, r, u, c, es⟩ = false := by
  cases hm : frMay ⟨k, r, u, c, es⟩ with
  | false => rfl
  | true => have ok := frMay_ok hm; have h0 := ok.r0; have h5 := ok.r5; exact absurd ⟨h0, by show r ≤ 4; have : r < 5 := h5; omega⟩ h
theorem es_may {es : List Ev} : es.all (fun y => decide (evMay y = 0)) = true ↔ ∀ y ∈ es, evMay y = 0 := by
  rw [List.all_eq_true]; simp
theorem frMay_b {k r u : Int} {c : Clk} {es : List Ev} (hk : k = 1 ∨ k = 4) (h0 : 0 ≤ r) (h4 : r ≤ 4) (hown : k = 1 → ∀ y ∈ es, y.r = r) (b : Bool)
    (hb : b = true ↔ (u = 0 ∧ c = clk0 ∧ (∀ y ∈ es, evMay y = 0) ∧ es.length ≤ 20 ∧ (k = 4 ∨ es ≠ []))) : b = frMay ⟨k, r, u, c, es⟩ := by
  refine Bool.eq_iff_iff.2 ⟨fun h => ?_, fun h => ?_⟩
  · obtain ⟨h1, h2, h3, h5, h6⟩ := hb.1 h
    subst h1; subst h2
    have hf : fHas k = 1 := by rcases hk with rfl | rfl <;> rfl
    refine frMay_of ⟨by show fHas k ≠ 0; rw [hf]; decide, h0, by show r < 5; omega, .inl hf, .inr rfl, .inr rfl, ?_, h5, by show (0 : Int) ≤ 0; decide, by show (0 : Int) ≤ 1048576; decide, fun i _ => ?_, h3, hown⟩
    · rcases h6 with h6 | h6
      · exact .inl (by show k ≠ 1; omega)
      · exact .inr h6
    · show 0 ≤ clk0.get i ∧ clk0.get i ≤ 1048576
      rw [clk0_in]; omega
  · have ok := frMay_ok h
    have hf : fHas k = 1 := by rcases hk with rfl | rfl <;> rfl
    refine hb.2 ⟨ok.h2.resolve_left (by show fHas k ≠ 2; rw [hf]; decide), ok.h3.resolve_left (by show fHas k ≠ 3; rw [hf]; decide), ok.es, ok.most, ?_⟩
    rcases hk with rfl | rfl
    · exact .inr (ok.push.resolve_left (fun h => h rfl))
    · exact .inl rfl
theorem frMay_u {r u : Int} {c : Clk} {es : List Ev} (h0 : 0 ≤ r) (h4 : r ≤ 4) (b : Bool) (hb : b = true ↔ (inEv u = true ∧ c = clk0 ∧ es.length = 0)) : b = frMay ⟨2, r, u, c, es⟩ := by
  refine Bool.eq_iff_iff.2 ⟨fun h => ?_, fun h => ?_⟩
  · obtain ⟨h1, h2, h3⟩ := hb.1 h
    subst h2
    have h3 := List.eq_nil_of_length_eq_zero h3
    subst h3
    simp only [inEv, Bool.and_eq_true, decide_eq_true_eq] at h1
    refine frMay_of ⟨by show fHas 2 ≠ 0; decide, h0, by show r < 5; omega, .inr rfl, .inl rfl, .inr rfl, .inl (by show (2 : Int) ≠ 1; decide), by show 0 ≤ 20; decide, h1.1, h1.2, fun i _ => ?_, fun y hy => (nomatch hy), fun hk => absurd hk (by show ¬ (2 : Int) = 1; decide)⟩
    show 0 ≤ clk0.get i ∧ clk0.get i ≤ 1048576
    rw [clk0_in]; omega
  · have ok := frMay_ok h
    refine hb.2 ⟨by simp only [inEv, Bool.and_eq_true, decide_eq_true_eq]; exact ⟨ok.u0, ok.u1⟩, ok.h3.resolve_left (by show fHas 2 ≠ 3; decide), ?_⟩
    have : es = [] := ok.h1.resolve_left (by show fHas 2 ≠ 1; decide)
    rw [this]; rfl
theorem frMay_c {k r u : Int} {c : Clk} {es : List Ev} (hk : k = 3 ∨ k = 5) (h0 : 0 ≤ r) (h4 : r ≤ 4) (b : Bool) (hb : b = true ↔ (u = 0 ∧ c.all inEv = true ∧ es.length = 0)) : b = frMay ⟨k, r, u, c, es⟩ := by
  have hf : fHas k = 3 := by rcases hk with rfl | rfl <;> rfl
  refine Bool.eq_iff_iff.2 ⟨fun h => ?_, fun h => ?_⟩
  · obtain ⟨h1, h2, h3⟩ := hb.1 h
    subst h1
    have h3 := List.eq_nil_of_length_eq_zero h3
    subst h3
    refine frMay_of ⟨by show fHas k ≠ 0; rw [hf]; decide, h0, by show r < 5; omega, .inr rfl, .inr rfl, .inl hf, .inl (by show k ≠ 1; omega), by show 0 ≤ 20; decide, by show (0 : Int) ≤ 0; decide, by show (0 : Int) ≤ 1048576; decide, fun i hi => ?_, fun y hy => (nomatch hy), fun hk1 => absurd hk1 (by show ¬ k = 1; omega)⟩
    have := (Clk.all_iff _ _).1 h2 i hi
    simpa [inEv] using this
  · have ok := frMay_ok h
    refine hb.2 ⟨ok.h2.resolve_left (by show fHas k ≠ 2; rw [hf]; decide), (Clk.all_iff _ _).2 fun i hi => ?_, ?_⟩
    · have := ok.c i hi
      simpa [inEv] using this
    · have : es = [] := ok.h1.resolve_left (by show fHas k ≠ 1; rw [hf]; decide)
      rw [this]; rfl
theorem c_may07 (x : Rec) {a : Option Addr} {cap : Nat} (w : World) (H : Cells w a (evsC x.es)) (hw : ClkW x.c) (hl : x.es.length ≤ 1000000000000000) : Cl Try.prog 23 #[.agg (recV x a cap).toArray] w (fun v w' => v = .bool (frMay x) ∧ Chg No w w') := by
  obtain ⟨k, r, u, c, es⟩ := x
  have H : Cells w a (evsC es) := H
  have hw : ClkW c := hw
  have hl : es.length ≤ 1000000000000000 := hl
  refine f_enter (args := [_]) Try.func23 rfl rfl ?_
  have mm := Mem.nil No w
  refine c_sreg rfl ?_
  refine so (o_bxa mm rfl fun b2 w2 mm => ?_)
  refine s1 (r_asb rfl) ?_
  refine wn ?_
  have mm : Mem w No _ [bk b2 (recV ⟨k, r, u, c, es⟩ a cap) 40] := mm
  refine c_seq ?_
  refine c_sreg rfl ?_
  refine s1 (r_fa rfl) ?_
  refine s1 (r_ld rfl (mm.b 0 rfl) rfl) ?_
  refine s1 (r_lt rfl rfl) ?_
  refine s1 (r_mvb rfl) ?_
  refine sF rfl rfl (fun h => r_fa rfl) ?_
  refine sF rfl rfl (fun h => r_ld (sel_t h :) (mm.b 0 rfl) rfl) ?_
  refine sF rfl rfl (fun h => r_gt (sel_t h :) rfl) ?_
  refine s1 (r_or rfl rfl) ?_
  refine wn ?_
  refine c_cond rfl (fun h => ?_) (fun h => (c_skip (t_n ?_)))
  · refine c_sreg rfl ?_
    refine s1 (r_asb rfl) ?_
    refine wn ?_
    exact c_ret (ret1 rfl rfl ⟨congrArg Value.bool (frMay_no (by simp at h; omega)).symm, mm.chg⟩)
  have hr : 0 ≤ r ∧ r ≤ 4 := by simp at h; omega
  clear h
  refine c_sreg rfl ?_
  refine s1 (r_fa rfl) ?_
  refine s1 (r_lda rfl (mm.b 0 rfl) rfl) ?_
  refine s1 (r_bd bN rfl) ?_
  refine s1 (r_eqa clk_guard (clk_eq _ _ hw clk0_w) rfl rfl) ?_
  refine s1 (r_asb rfl) ?_
  refine wn ?_
  refine c_seq ?_
  refine c_sreg rfl ?_
  refine s1 (r_fa rfl) ?_
  refine s1 (r_ld rfl (mm.b 0 rfl) rfl) ?_
  refine wn ?_
  refine c_block ?_
  by_cases k1 : k = 1
  · subst k1
    refine c_seq ?_
    refine c_sreg rfl ?_
    refine s1 (r_eq rfl rfl) ?_
    refine s1 (r_asb rfl) ?_
    refine wn ?_
    refine c_cond rfl (fun h => (c_skip (t_n ?_))) (fun h => ?_)
    rotate_left
    · exact tf h
    clear h
    refine c_cond rfl (fun h => ?_) (fun h => ?_)
    rotate_left
    · exact tf h
    clear h
    refine c_seq ?_
    refine c_sreg rfl ?_
    refine s1 (r_fa rfl) ?_
    refine s1 (r_ld rfl (mm.b 0 rfl) rfl) ?_
    refine s1 (r_eq rfl rfl) ?_
    refine wn ?_
    refine c_cond rfl (fun h => ?_) (fun h => (c_skip (t_n ?_)))
    rotate_left
    · exact tf h
    clear h
    refine c_sreg rfl ?_
    refine s1 (r_asi rfl) ?_
    refine wn ?_
    refine c_block ?_
    refine c_loop (fun kk e w' => ∃ i : Nat, kk + i = es.length ∧ e 1 = .pointer (some ⟨b2, 0, none⟩) ∧ e 3 = .bool (decide (c = clk0)) ∧ e 4 = .int .i64 (i : Nat) ∧ Mem w No w' [bk b2 (recV ⟨1, r, u, c, es⟩ a cap) 40] ∧ (es.take i).all (fun y => decide (y.r = r)) = true) es.length ?_ ?_
    · exact ⟨0, rfl, rfl, rfl, rfl, mm, rfl⟩
    clear mm
    rintro kk e w9 ⟨i, hki, h1, h3, h4, mm, hh⟩
    refine c_seq ?_
    refine c_sreg rfl ?_
    refine s1 (r_mvi h4) ?_
    refine s1 (r_fa h1) ?_
    refine s1 (r_ld rfl (mm.b 0 rfl) rfl) ?_
    refine s1 (r_len rfl) ?_
    refine s1 (r_lt rfl rfl) ?_
    refine wn ?_
    refine c_cond rfl (fun h => (c_skip (t_n ?_))) (fun h => (c_exit (t_x (t_x (b_x (t_n ?_))))))
    · have hi : i < es.length := by simp at h; omega
      clear h
      refine c_seq ?_
      refine c_block ?_
      refine c_sdraw2 mixed [(0, some 0), (2, some 0), (6, some 0), (1, some 2), (3, some 0), (4, some 0), (5, some 2), (7, some 2), (8, some 0)] [0, 0, 0, 0, 0, 0, 0, 2, 0] (Sof mm) (Sof mm) (fun _ h => h) (by kernel_rfl) rfl rfl (by kernel_rfl) (fun w3 hc => ?_)
      have mm := mm.frame hc
      refine q01 rfl (fun w => r_fa h1) ?_
      refine q01 rfl (fun w => r_mvi h4) ?_
      refine q01 rfl (fun w => r_fa h1) ?_
      refine qA1 rfl (fun w m => r_ld rfl (m.b 0 rfl) rfl) mm ?_
      refine q01 rfl (fun w => r_ix rfl rfl (by omega) (by show ((i : Nat) : Int) < ((es.length : Nat) : Int); omega) (evs_some H hi)) ?_
      refine q01 rfl (fun w => r_fac rfl (evs_some H hi)) ?_
      refine qA1 rfl (fun w m => r_ldc rfl (m.ro H) (nth_seg _ _ 12 0 _ (by rw [seg_evs es i hi]; rfl))) mm ?_
      refine qA1 rfl (fun w m => r_ld rfl (m.b 0 rfl) rfl) mm ?_
      refine q01 rfl (fun w => r_ne rfl rfl) ?_
      refine qn ?_
      refine c_cond rfl (fun h => ?_) (fun h => (c_skip (b_n (t_n ?_))))
      · refine c_sreg rfl ?_
        refine s1 (r_asb rfl) ?_
        refine wn ?_
        refine c_ret (ret1 rfl rfl ⟨congrArg Value.bool ?_, mm.chg⟩)
        refine (Bool.eq_false_iff.2 fun hm => ?_).symm
        have := (frMay_ok hm).own rfl es[i] (List.getElem_mem hi)
        simp at h
        exact h this
      have hin : decide (es[i].r = r) = true := by simpa using h
      clear h
      refine c_region rfl ?_
      refine s1 (r_mvi h4) ?_
      refine s1 (r_add rfl rfl (wi (by omega) (by omega))) ?_
      refine s1 (r_asi rfl) ?_
      refine wn (t_n ?_)
      exact ⟨kk - 1, by omega, i + 1, by omega, h1, h3, rfl, mm, all_snoc es _ i hi hh hin⟩
    have hi : i = es.length := by simp at h; omega
    subst hi
    clear h
    rw [List.take_length] at hh
    refine c_sreg rfl ?_
    refine s1 (r_fa h1) ?_
    refine s1 (r_ld rfl (mm.b 0 rfl) rfl) ?_
    refine s1 (r_eq rfl rfl) ?_
    refine s1 (r_mvb rfl) ?_
    refine sT rfl rfl (fun h => r_mvb h3) ?_
    refine s1 (r_and rfl rfl) ?_
    refine s1 (r_mvb rfl) ?_
    refine sT rfl rfl (fun h => r_fa h1) ?_
    refine sT rfl rfl (fun h => r_ld (sel_t h :) (mm.b 0 rfl) rfl) ?_
    refine sTw (I := Sof mm) rfl rfl mm (fun h => o_c1 (sel_t h :) (c_events07 es hl _ (mm.ro H)) (fun _ _ hh => ⟨hh.1, mm.frame hh.2⟩)) (fun w4 mm => ?_)
    refine s1 (r_and rfl rfl) ?_
    refine s1 (r_mvb rfl) ?_
    refine sT rfl rfl (fun h => r_fa h1) ?_
    refine sT rfl rfl (fun h => r_ld (sel_t h :) (mm.b 0 rfl) rfl) ?_
    refine sT rfl rfl (fun h => r_eq (sel_t h :) rfl) ?_
    refine sT rfl rfl (fun h => r_mvb (sel_t h :)) ?_
    refine sFs rfl rfl (fun h => r_fa h1) ?_
    refine sFs rfl rfl (fun h => r_ld (sel_t h :) (mm.b 0 rfl) rfl) ?_
    refine sFs rfl rfl (fun h => r_len (sel_t h :)) ?_
    refine sFs rfl rfl (fun h => r_gt (sel_t h :) rfl) ?_
    refine sT rfl rfl (fun h => r_or (sel_t h :) (sel_and h :)) ?_
    refine s1 (r_and rfl rfl) ?_
    refine s1 (r_asb rfl) ?_
    refine wn ?_
    refine c_ret (ret1 rfl rfl ⟨congrArg Value.bool (frMay_b (.inl rfl) hr.1 hr.2 (fun _ => by simpa using hh) _ ?_), mm.chg⟩)
    have e20 : (((es.length : Nat) : Int) ≤ 20) ↔ es.length ≤ 20 := by omega
    have epos : (0 < ((es.length : Nat) : Int)) ↔ es ≠ [] := by rw [← List.length_pos_iff]; omega
    simp only [Bool.and_eq_true, Bool.or_eq_true, decide_eq_true_eq, es_may, e20, epos]
    simp [and_assoc]
  by_cases k4 : k = 4
  · subst k4
    refine c_seq ?_
    refine c_sreg rfl ?_
    refine s1 (r_eq rfl rfl) ?_
    refine s1 (r_asb rfl) ?_
    refine wn ?_
    refine c_cond rfl (fun h => (c_skip (t_n ?_))) (fun h => ?_)
    · exact ft h
    clear h
    refine c_region rfl ?_
    refine s1 (r_eq rfl rfl) ?_
    refine s1 (r_asb rfl) ?_
    refine wn (t_n ?_)
    refine c_cond rfl (fun h => ?_) (fun h => ?_)
    rotate_left
    · exact tf h
    clear h
    refine c_seq ?_
    refine c_sreg rfl ?_
    refine s1 (r_fa rfl) ?_
    refine s1 (r_ld rfl (mm.b 0 rfl) rfl) ?_
    refine s1 (r_eq rfl rfl) ?_
    refine wn ?_
    refine c_cond rfl (fun h => ?_) (fun h => (c_skip (t_n ?_)))
    · exact ft h
    clear h
    refine c_sreg rfl ?_
    refine s1 (r_fa rfl) ?_
    refine s1 (r_ld rfl (mm.b 0 rfl) rfl) ?_
    refine s1 (r_eq rfl rfl) ?_
    refine s1 (r_mvb rfl) ?_
    refine sT rfl rfl (fun h => r_mvb rfl) ?_
    refine s1 (r_and rfl rfl) ?_
    refine s1 (r_mvb rfl) ?_
    refine sT rfl rfl (fun h => r_fa rfl) ?_
    refine sT rfl rfl (fun h => r_ld (sel_t h :) (mm.b 0 rfl) rfl) ?_
    refine sTw (I := Sof mm) rfl rfl mm (fun h => o_c1 (sel_t h :) (c_events07 es hl _ (mm.ro H)) (fun _ _ hh => ⟨hh.1, mm.frame hh.2⟩)) (fun w5 mm => ?_)
    refine s1 (r_and rfl rfl) ?_
    refine s1 (r_mvb rfl) ?_
    refine sT rfl rfl (fun h => r_fa rfl) ?_
    refine sT rfl rfl (fun h => r_ld (sel_t h :) (mm.b 0 rfl) rfl) ?_
    refine sT rfl rfl (fun h => r_eq (sel_t h :) rfl) ?_
    refine sT rfl rfl (fun h => r_mvb (sel_t h :)) ?_
    refine sFs rfl rfl (fun h => r_fa rfl) ?_
    refine sFs rfl rfl (fun h => r_ld (sel_t h :) (mm.b 0 rfl) rfl) ?_
    refine sFs rfl rfl (fun h => r_len (sel_t h :)) ?_
    refine sFs rfl rfl (fun h => r_gt (sel_t h :) rfl) ?_
    refine sT rfl rfl (fun h => r_or (sel_t h :) (sel_and h :)) ?_
    refine s1 (r_and rfl rfl) ?_
    refine s1 (r_asb rfl) ?_
    refine wn ?_
    refine c_ret (ret1 rfl rfl ⟨congrArg Value.bool (frMay_b (.inr rfl) hr.1 hr.2 (fun hk => absurd hk (by decide)) _ ?_), mm.chg⟩)
    have e20 : (((es.length : Nat) : Int) ≤ 20) ↔ es.length ≤ 20 := by omega
    have epos : (0 < ((es.length : Nat) : Int)) ↔ es ≠ [] := by rw [← List.length_pos_iff]; omega
    simp only [Bool.and_eq_true, Bool.or_eq_true, decide_eq_true_eq, es_may, e20, epos]
    simp [and_assoc]
  by_cases k2 : k = 2
  · subst k2
    refine c_seq ?_
    refine c_sreg rfl ?_
    refine s1 (r_eq rfl rfl) ?_
    refine s1 (r_asb rfl) ?_
    refine wn ?_
    refine c_cond rfl (fun h => (c_skip (t_n ?_))) (fun h => ?_)
    · exact ft h
    clear h
    refine c_region rfl ?_
    refine s1 (r_eq rfl rfl) ?_
    refine s1 (r_asb rfl) ?_
    refine wn (t_n ?_)
    refine c_cond rfl (fun h => ?_) (fun h => ?_)
    · exact ft h
    clear h
    refine c_sreg rfl ?_
    refine s1 (r_eq rfl rfl) ?_
    refine s1 (r_asb rfl) ?_
    refine wn ?_
    refine c_cond rfl (fun h => ?_) (fun h => ?_)
    rotate_left
    · exact tf h
    clear h
    refine c_sreg rfl ?_
    refine s1 (r_fa rfl) ?_
    refine s1 (r_ld rfl (mm.b 0 rfl) rfl) ?_
    refine so (o_c1 rfl (c_in07 u _) ?_)
    rintro _ w6 ⟨rfl, hc⟩
    have mm := mm.frame hc
    refine s1 (r_mvb rfl) ?_
    refine sT rfl rfl (fun h => r_mvb rfl) ?_
    refine s1 (r_and rfl rfl) ?_
    refine s1 (r_mvb rfl) ?_
    refine sT rfl rfl (fun h => r_fa rfl) ?_
    refine sT rfl rfl (fun h => r_ld (sel_t h :) (mm.b 0 rfl) rfl) ?_
    refine sT rfl rfl (fun h => r_len (sel_t h :)) ?_
    refine sT rfl rfl (fun h => r_eq (sel_t h :) rfl) ?_
    refine s1 (r_and rfl rfl) ?_
    refine s1 (r_asb rfl) ?_
    refine wn ?_
    refine c_ret (ret1 rfl rfl ⟨congrArg Value.bool (frMay_u hr.1 hr.2 _ ?_), mm.chg⟩)
    have e20 : (((es.length : Nat) : Int) = 0) ↔ es.length = 0 := by omega
    simp only [Bool.and_eq_true, decide_eq_true_eq, e20]
    simp [and_assoc]
  by_cases k3 : k = 3
  · subst k3
    refine c_seq ?_
    refine c_sreg rfl ?_
    refine s1 (r_eq rfl rfl) ?_
    refine s1 (r_asb rfl) ?_
    refine wn ?_
    refine c_cond rfl (fun h => (c_skip (t_n ?_))) (fun h => ?_)
    · exact ft h
    clear h
    refine c_region rfl ?_
    refine s1 (r_eq rfl rfl) ?_
    refine s1 (r_asb rfl) ?_
    refine wn (t_n ?_)
    refine c_cond rfl (fun h => ?_) (fun h => ?_)
    · exact ft h
    clear h
    refine c_sreg rfl ?_
    refine s1 (r_eq rfl rfl) ?_
    refine s1 (r_asb rfl) ?_
    refine wn ?_
    refine c_cond rfl (fun h => ?_) (fun h => ?_)
    · exact ft h
    clear h
    refine c_seq ?_
    refine c_sreg rfl ?_
    refine s1 (r_eq rfl rfl) ?_
    refine s1 (r_asb rfl) ?_
    refine wn ?_
    refine c_cond rfl (fun h => (c_skip (t_n ?_))) (fun h => ?_)
    rotate_left
    · exact tf h
    clear h
    refine c_cond rfl (fun h => ?_) (fun h => (c_skip (b_n (t_n ?_))))
    rotate_left
    · exact tf h
    clear h
    refine c_sreg rfl ?_
    refine s1 (r_fa rfl) ?_
    refine s1 (r_ld rfl (mm.b 0 rfl) rfl) ?_
    refine s1 (r_eq rfl rfl) ?_
    refine s1 (r_mvb rfl) ?_
    refine sT rfl rfl (fun h => r_fa rfl) ?_
    refine sT rfl rfl (fun h => r_lda (sel_t h :) (mm.b 0 rfl) rfl) ?_
    refine sTw (I := Sof mm) rfl rfl mm (fun h => o_c1 (sel_t h :) (c_clock07 c _) (fun _ _ hh => ⟨hh.1, mm.frame hh.2⟩)) (fun w7 mm => ?_)
    refine s1 (r_and rfl rfl) ?_
    refine s1 (r_mvb rfl) ?_
    refine sT rfl rfl (fun h => r_fa rfl) ?_
    refine sT rfl rfl (fun h => r_ld (sel_t h :) (mm.b 0 rfl) rfl) ?_
    refine sT rfl rfl (fun h => r_len (sel_t h :)) ?_
    refine sT rfl rfl (fun h => r_eq (sel_t h :) rfl) ?_
    refine s1 (r_and rfl rfl) ?_
    refine s1 (r_asb rfl) ?_
    refine wn ?_
    refine c_ret (ret1 rfl rfl ⟨congrArg Value.bool (frMay_c (.inl rfl) hr.1 hr.2 _ ?_), mm.chg⟩)
    have e20 : (((es.length : Nat) : Int) = 0) ↔ es.length = 0 := by omega
    simp only [Bool.and_eq_true, decide_eq_true_eq, e20]
    simp [and_assoc]
  by_cases k5 : k = 5
  · subst k5
    refine c_seq ?_
    refine c_sreg rfl ?_
    refine s1 (r_eq rfl rfl) ?_
    refine s1 (r_asb rfl) ?_
    refine wn ?_
    refine c_cond rfl (fun h => (c_skip (t_n ?_))) (fun h => ?_)
    · exact ft h
    clear h
    refine c_region rfl ?_
    refine s1 (r_eq rfl rfl) ?_
    refine s1 (r_asb rfl) ?_
    refine wn (t_n ?_)
    refine c_cond rfl (fun h => ?_) (fun h => ?_)
    · exact ft h
    clear h
    refine c_sreg rfl ?_
    refine s1 (r_eq rfl rfl) ?_
    refine s1 (r_asb rfl) ?_
    refine wn ?_
    refine c_cond rfl (fun h => ?_) (fun h => ?_)
    · exact ft h
    clear h
    refine c_seq ?_
    refine c_sreg rfl ?_
    refine s1 (r_eq rfl rfl) ?_
    refine s1 (r_asb rfl) ?_
    refine wn ?_
    refine c_cond rfl (fun h => (c_skip (t_n ?_))) (fun h => ?_)
    · exact ft h
    clear h
    refine c_region rfl ?_
    refine s1 (r_eq rfl rfl) ?_
    refine s1 (r_asb rfl) ?_
    refine wn (t_n ?_)
    refine c_cond rfl (fun h => ?_) (fun h => (c_skip (b_n (t_n ?_))))
    rotate_left
    · exact tf h
    clear h
    refine c_sreg rfl ?_
    refine s1 (r_fa rfl) ?_
    refine s1 (r_ld rfl (mm.b 0 rfl) rfl) ?_
    refine s1 (r_eq rfl rfl) ?_
    refine s1 (r_mvb rfl) ?_
    refine sT rfl rfl (fun h => r_fa rfl) ?_
    refine sT rfl rfl (fun h => r_lda (sel_t h :) (mm.b 0 rfl) rfl) ?_
    refine sTw (I := Sof mm) rfl rfl mm (fun h => o_c1 (sel_t h :) (c_clock07 c _) (fun _ _ hh => ⟨hh.1, mm.frame hh.2⟩)) (fun w8 mm => ?_)
    refine s1 (r_and rfl rfl) ?_
    refine s1 (r_mvb rfl) ?_
    refine sT rfl rfl (fun h => r_fa rfl) ?_
    refine sT rfl rfl (fun h => r_ld (sel_t h :) (mm.b 0 rfl) rfl) ?_
    refine sT rfl rfl (fun h => r_len (sel_t h :)) ?_
    refine sT rfl rfl (fun h => r_eq (sel_t h :) rfl) ?_
    refine s1 (r_and rfl rfl) ?_
    refine s1 (r_asb rfl) ?_
    refine wn ?_
    refine c_ret (ret1 rfl rfl ⟨congrArg Value.bool (frMay_c (.inr rfl) hr.1 hr.2 _ ?_), mm.chg⟩)
    have e20 : (((es.length : Nat) : Int) = 0) ↔ es.length = 0 := by omega
    simp only [Bool.and_eq_true, decide_eq_true_eq, e20]
    simp [and_assoc]
  have hno : frMay ⟨k, r, u, c, es⟩ = false := by
    refine Bool.eq_false_iff.2 fun hm => ?_
    have := fHas_in (frMay_ok hm).is
    have h1 : 1 ≤ k ∧ k ≤ 5 := this
    omega
  refine c_seq ?_
  refine c_sreg rfl ?_
  refine s1 (r_eq rfl rfl) ?_
  refine s1 (r_asb rfl) ?_
  refine wn ?_
  refine c_cond rfl (fun h => (c_skip (t_n ?_))) (fun h => ?_)
  · exact absurd (of_decide_eq_true h) k1
  clear h
  refine c_region rfl ?_
  refine s1 (r_eq rfl rfl) ?_
  refine s1 (r_asb rfl) ?_
  refine wn (t_n ?_)
  refine c_cond rfl (fun h => ?_) (fun h => ?_)
  · exact absurd (of_decide_eq_true h) k4
  clear h
  refine c_sreg rfl ?_
  refine s1 (r_eq rfl rfl) ?_
  refine s1 (r_asb rfl) ?_
  refine wn ?_
  refine c_cond rfl (fun h => ?_) (fun h => ?_)
  · exact absurd (of_decide_eq_true h) k2
  clear h
  refine c_seq ?_
  refine c_sreg rfl ?_
  refine s1 (r_eq rfl rfl) ?_
  refine s1 (r_asb rfl) ?_
  refine wn ?_
  refine c_cond rfl (fun h => (c_skip (t_n ?_))) (fun h => ?_)
  · exact absurd (of_decide_eq_true h) k3
  clear h
  refine c_region rfl ?_
  refine s1 (r_eq rfl rfl) ?_
  refine s1 (r_asb rfl) ?_
  refine wn (t_n ?_)
  refine c_cond rfl (fun h => ?_) (fun h => (c_skip (b_n (t_n ?_))))
  · exact absurd (of_decide_eq_true h) k5
  clear h
  refine c_sreg rfl ?_
  refine s1 (r_asb rfl) ?_
  refine wn ?_
  exact c_ret (ret1 rfl rfl ⟨congrArg Value.bool hno.symm, mm.chg⟩)
end Go.Proofs.Ytbcpabfemejlgaa
