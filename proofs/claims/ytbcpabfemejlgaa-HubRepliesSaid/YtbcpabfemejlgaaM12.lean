/- slices.IndexFunc, ContainsFunc, Clone of events; clock.Join; shelf.Shelf's Put, From, Cut: walks. -/
import Derived.Test.YtbcpabfemejlgaaM7
import Derived.Test.YtbcpabfemejlgaaM9
import Derived.Test.YtbcpabfemejlgaaM11
import Derived.Test.YtbcpabfemejlgaaM3
import Derived.Test.YtbcpabfemejlgaaM6
namespace Go.Proofs.Ytbcpabfemejlgaa
open K
set_option maxRecDepth 100000
set_option maxHeartbeats 4000000

def IdxS (p : Ev → Bool) (l : List Ev) (i : Int) : Prop := (i = -1 ∧ ∀ j (h : j < l.length), p l[j] = false) ∨ (∃ n : Nat, i = n ∧ ∃ h : n < l.length, p l[n] = true ∧ ∀ j (hj : j < n), p (l[j]'(by omega)) = false)
theorem IdxS.any {p : Ev → Bool} {l : List Ev} {i : Int} (h : IdxS p l i) : decide (0 ≤ i) = l.any p := by
  rcases h with ⟨rfl, h⟩ | ⟨n, rfl, hn, hp, _⟩
  · symm
    rw [show decide ((0 : Int) ≤ -1) = false from rfl, List.any_eq_false]
    intro x hx
    obtain ⟨j, hj, rfl⟩ := List.mem_iff_getElem.1 hx
    rw [h j hj]; decide
  · rw [decide_eq_true (by omega)]
    exact (List.any_eq_true.2 ⟨_, List.getElem_mem hn, hp⟩).symm
theorem above_drop (n : Int) (l : List Ev) (k : Nat) (hk : k < l.length) (h1 : n < l[k].n) (h2 : ∀ j (hj : j < k), l[j].n ≤ n) : above n l = l.drop k := by
  induction l generalizing k with
  | nil => simp at hk
  | cons a l ih =>
    unfold above at *
    cases k with
    | zero =>
      have : n < a.n := h1
      rw [List.dropWhile_cons, if_neg (by simp; omega)]; rfl
    | succ k =>
      have h0 := h2 0 (by omega)
      rw [List.dropWhile_cons, if_pos (by simpa using h0)]
      exact ih k (by simpa using hk) (by simpa using h1) (fun j hj => by have := h2 (j + 1) (by omega); simpa using this)
theorem above_none (n : Int) (l : List Ev) (h : ∀ j (hj : j < l.length), l[j].n ≤ n) : above n l = [] := by
  induction l with
  | nil => rfl
  | cons a l ih =>
    have h0 := h 0 (by simp)
    have ih := ih fun j hj => by have := h (j + 1) (by simpa using hj); simpa using this
    unfold above at *
    rw [List.dropWhile_cons, if_pos (by simpa using h0)]
    exact ih
theorem IdxS.above {n : Int} {l : List Ev} {i : Int} (h : IdxS (fun y => decide (n < y.n)) l i) : (i = -1 ∧ above n l = []) ∨ ∃ k : Nat, i = k ∧ k < l.length ∧ above n l = l.drop k := by
  rcases h with ⟨rfl, h⟩ | ⟨k, rfl, hk, hp, hj⟩
  · refine .inl ⟨rfl, above_none _ _ fun j hj => ?_⟩
    have := h j hj
    simp at this; exact this
  · refine .inr ⟨k, rfl, hk, above_drop n l k hk (by simpa using hp) fun j hjk => ?_⟩
    have := hj j hjk
    simp at this; exact this
theorem c_indexF (l : List Ev) (hl : l.length ≤ 1000000000000000) {a : Option Addr} {c : Nat} {f : Nat} {fn : Func} [Fnc Try.prog f fn] (u : Value) (p : Ev → Bool) (w : World) (H : Cells w a (evsC l))
    (hf : ∀ w', Chg No w w' → ∀ y : Ev, Cl Try.prog f #[.agg (evC y).toArray, u] w' (fun r w'' => r = .bool (p y) ∧ Chg No w' w'')) :
    Cl Try.prog 88 #[.slice a l.length c, .func (.func f) #[] #[u]] w (fun r w' => ∃ i : Int, r = .int .i64 i ∧ IdxS p l i ∧ Chg No w w') := by
  refine f_enter (args := [_, _]) Try.func88 rfl rfl ?_
  have mm := Mem.nil No w
  refine c_sreg rfl ?_
  refine s1 (r_asi rfl) ?_
  refine wn ?_
  refine c_seq ?_
  refine c_sreg rfl ?_
  refine s1 (r_mvs rfl) ?_
  refine s1 (r_len rfl) ?_
  refine s1 (r_mvi rfl) ?_
  refine wn ?_
  refine c_block ?_
  refine c_loop (fun kk e w' => ∃ i : Nat, kk + i = l.length ∧ e 0 = .slice a l.length c ∧ e 1 = .func (.func f) #[] #[u] ∧ e 7 = .int .i64 (l.length : Nat) ∧ e 8 = .int .i64 (i : Nat) ∧ Mem w No w' [] ∧ ∀ j (hj : j < l.length), j < i → p l[j] = false) l.length ?_ ?_
  · exact ⟨0, rfl, rfl, rfl, rfl, rfl, mm, fun j _ hj => absurd hj (by omega)⟩
  clear mm
  rintro kk e w9 ⟨i, hki, h0, h1, h7, h8, mm, hh⟩
  refine c_sreg rfl ?_
  refine s1 (r_lt h8 h7) ?_
  refine wn ?_
  refine c_seq ?_
  refine c_cond rfl (fun h => (c_skip (t_n ?_))) (fun h => (c_exit (t_x (t_x (b_x (t_n ?_))))))
  · have hi : i < l.length := by simp at h; omega
    clear h
    refine c_seq ?_
    refine c_block ?_
    refine c_sreg rfl ?_
    refine s1 (r_mvi h8) ?_
    refine s1 (r_asi rfl) ?_
    refine wn ?_
    refine c_sreg rfl ?_
    refine s1 (r_mvf h1) ?_
    refine s1 (r_mvs h0) ?_
    refine s1 (r_mvi rfl) ?_
    refine s1 (r_ix rfl rfl (by omega) (by omega) (evs_some H hi)) ?_
    refine s1 (r_ldce rfl (mm.ro H) (seg_evs l i hi) (evs_le l i hi) (by decide)) ?_
    refine so (o_f11 rfl rfl (hf _ mm.chg _) ?_)
    rintro _ w2 ⟨rfl, hc⟩
    have mm := mm.frame hc
    refine wn ?_
    refine c_cond rfl (fun h => ?_) (fun h => (c_skip (b_n (t_n ?_))))
    · refine c_sreg rfl ?_
      refine s1 (r_mvi rfl) ?_
      refine s1 (r_asi rfl) ?_
      refine wn ?_
      exact c_ret (ret1 rfl rfl ⟨_, rfl, .inr ⟨i, rfl, hi, h, fun j hj => hh j (by omega) hj⟩, mm.chg⟩)
    refine c_region rfl ?_
    refine s1 (r_add h8 rfl (wi (by omega) (by omega))) ?_
    refine s1 (r_mvi rfl) ?_
    refine wn (t_n ?_)
    refine ⟨kk - 1, by omega, i + 1, by omega, h0, h1, h7, rfl, mm, fun j hj hji => ?_⟩
    rcases Nat.lt_or_ge j i with hlt | hge
    · exact hh j hj hlt
    · obtain rfl : j = i := by omega
      exact h
  have hi : i = l.length := by simp at h; omega
  subst hi
  clear h
  refine c_sreg rfl ?_
  refine s1 (r_asi rfl) ?_
  refine wn ?_
  exact c_ret (ret1 rfl rfl ⟨-1, rfl, .inl ⟨rfl, fun j hj => hh j hj hj⟩, mm.chg⟩)
theorem c_containsF (l : List Ev) (hl : l.length ≤ 1000000000000000) {a : Option Addr} {c : Nat} {f : Nat} {fn : Func} [Fnc Try.prog f fn] (u : Value) (p : Ev → Bool) (w : World) (H : Cells w a (evsC l))
    (hf : ∀ w', Chg No w w' → ∀ y : Ev, Cl Try.prog f #[.agg (evC y).toArray, u] w' (fun r w'' => r = .bool (p y) ∧ Chg No w' w'')) :
    Cl Try.prog 61 #[.slice a l.length c, .func (.func f) #[] #[u]] w (fun r w' => r = .bool (l.any p) ∧ Chg No w w') := by
  refine f_enter (args := [_, _]) Try.func61 rfl rfl ?_
  have mm := Mem.nil No w
  refine c_sreg rfl ?_
  refine s1 (r_asb rfl) ?_
  refine wn ?_
  have hf' : ∀ w', Chg No w w' → ∀ w'', Chg No w' w'' → ∀ y : Ev, Cl Try.prog f #[.agg (evC y).toArray, u] w'' (fun r w3 => r = .bool (p y) ∧ Chg No w'' w3) := fun w' h1 w'' h2 y => hf w'' (h1.trans h2) y
  refine c_sreg rfl ?_
  refine s1 (r_mvs rfl) ?_
  refine s1 (r_mvf rfl) ?_
  refine so (o_c2 rfl rfl (c_indexF l hl u p _ (mm.ro H) (hf' _ mm.chg)) ?_)
  rintro _ w2 ⟨i, rfl, hi, hc⟩
  have mm := mm.frame hc
  refine s1 (r_ge rfl rfl) ?_
  refine s1 (r_asb rfl) ?_
  refine wn ?_
  rw [← hi.any]
  exact c_ret (ret1 rfl rfl ⟨rfl, mm.chg⟩)
theorem cells_none {w : World} {l : List Ev} (H : Cells w none (evsC l)) : l = [] := by
  cases l with
  | nil => rfl
  | cons x l => obtain ⟨_, h1, _⟩ := H 0 (.int .i64 x.r) rfl; cases h1
theorem c_cloneE (l : List Ev) (hl : l.length ≤ 1000000000000) {a : Option Addr} {c : Nat} (w : World) (H : Cells w a (evsC l)) : Cl Try.prog 97 #[.slice a l.length c] w (fun r w' => ∃ a' c', r = .slice a' l.length c' ∧ Chg No w w' ∧ New w w' (own 67 12 a' l.length c' (evsC l))) := by
  refine f_enter (args := [_]) Try.func97 rfl rfl ?_
  have mm := Mem.nil No w
  refine c_sreg rfl ?_
  refine s1 (r_ass rfl) ?_
  refine wn ?_
  refine c_seq ?_
  refine c_sreg rfl ?_
  refine s1 (r_mvs rfl) ?_
  refine s1 (r_snil rfl rfl) ?_
  refine wn ?_
  refine c_cond rfl (fun h => ?_) (fun h => (c_skip (t_n ?_)))
  · have ha : a = none := by simpa using h
    subst ha
    have hb0 := cells_none H
    subst hb0
    refine c_sreg rfl ?_
    refine s1 (r_ass rfl) ?_
    refine wn ?_
    have mm := mm.nilrow (T := 67) (sz := 12)
    exact c_ret (ret1 rfl rfl ⟨none, 0, rfl, mm.chg, mm.isNew 0 rfl⟩)
  clear h
  refine c_sreg rfl ?_
  refine so (o_bs0 mm fun a2 c2 w2 mm => ?_)
  refine s1 (r_mvs rfl) ?_
  refine so (o_ap mm 0 rfl rfl rfl (src_cells (n := l.length) (mm.ro H) (evsC_length l) (ones_evs l) (by decide)) (by omega) (by unfold maxLen; omega) fun a3 c3 w3 mm => ?_)
  refine s1 (r_ass rfl) ?_
  refine wn ?_
  have mm := mm.pk [0] (by decide)
  have h9 := mm.cst1 (n' := l.length) (cs' := evsC l) (Nat.zero_add _) rfl
  refine c_ret (ret1 rfl rfl ⟨_, _, ?_, mm.chg, h9.isNew 0 rfl⟩)
  show Value.slice _ (0 + l.length) _ = _
  rw [Nat.zero_add]

theorem K.Mem.castS {w0 w : World} {F0 : Nat → Prop} {b : Nat} {cs cs' ds ds' : List Value} {T T' : TypeId} {sz n n' c : Nat} {a : Option Addr} (h : Mem w0 F0 w [bk b cs T, own T' sz a n c ds]) (hc : cs = cs') (hn : n = n') (hd : ds = ds') : Mem w0 F0 w [bk b cs' T, own T' sz a n' c ds'] := by subst hc; subst hn; subst hd; exact h
theorem evsC_drop (l : List Ev) (n : Nat) : (evsC l).drop (n * 12) = evsC (l.drop n) := by
  induction n generalizing l with
  | zero => simp
  | succ n ih =>
    cases l with
    | nil => simp [evsC]
    | cons x l =>
      rw [evsC_cons, List.drop_succ_cons, ← ih l]
      have : (n + 1) * 12 = (evC x).length + n * 12 := by show _ = 12 + _; omega
      rw [this, ← List.drop_drop, List.drop_left]
def okAt (n : Int) (l : List Ev) : Nat → Prop
  | 0 => ∀ h : 0 < l.length, l[0].n ≤ n + 1
  | j + 1 => ∀ h : j + 1 < l.length, l[j + 1].n = l[j].n + 1
theorem rowOk_all : ∀ (l : List Ev), rowOk l = true ↔ ∀ j (h : j + 1 < l.length), l[j + 1].n = l[j].n + 1
  | [] => by simp [rowOk]
  | [a] => by simp [rowOk]
  | a :: b :: l => by
    have ih := rowOk_all (b :: l)
    simp only [rowOk, Bool.and_eq_true, decide_eq_true_eq] at ih ⊢
    constructor
    · rintro ⟨h1, h2⟩ j hj
      cases j with
      | zero => exact h1
      | succ j => have := ih.1 h2 j (by simpa using hj); simpa using this
    · intro h
      refine ⟨by have := h 0 (by simp); simpa using this, ih.2 fun j hj => ?_⟩
      have := h (j + 1) (by simpa using hj)
      simpa using this
theorem gapOk_all {n : Int} {l : List Ev} : gapOk n l = true ↔ ∀ j, j < l.length → okAt n l j := by
  unfold gapOk
  rw [Bool.and_eq_true, rowOk_all]
  constructor
  · rintro ⟨h1, h2⟩ j hj
    cases j with
    | zero =>
      intro h
      cases l with
      | nil => simp at h
      | cons a l => simpa using h1
    | succ j => exact fun h => h2 j h
  · intro h
    refine ⟨?_, fun j hj => h (j + 1) hj hj⟩
    cases l with
    | nil => rfl
    | cons a l => have := h 0 (by simp) (by simp); simpa using this
theorem splice_two (Z A B : List Value) (h : Z.length = A.length + B.length) : splice (splice Z 0 A) A.length B = A ++ B := by
  have e1 : splice Z 0 A = A ++ Z.drop A.length := by unfold splice; simp
  rw [e1]
  unfold splice
  rw [List.take_left, List.drop_of_length_le (by rw [List.length_append, List.length_drop]; omega), List.append_nil]
theorem c_shPut (W : Int) (hW : W ≤ 4) (s : Sh) (ok : ShOk W s) (b : Nat) (a : Option Addr) (c : Nat) (l : List Ev) (hl : l.length ≤ 1000) (hln : ∀ y ∈ l, 1 ≤ y.n ∧ y.n ≤ 1048576) (al : Option Addr) (cl : Nat) (hcl : l.length ≤ cl) (w : World) (hI : (shI W b a c s).holds w) (HS : Stab (shI W b a c s) w (fun w' => Cells w' al (evsC l))) :
    Cl Try.prog 63 #[.pointer (some ⟨b, 0, none⟩), .slice al l.length cl] w
      (fun r w' => ∃ a' c', r = .int .i64 (shPut W s l).2 ∧ Mem w (shI W b a c s).foot w' [shI W b a' c' (shPut W s l).1]) := by
  have mm : Mem w (shI W b a c s).foot w [bk b (shB W s a c) 122, own 67 12 a s.l.length c (evsC s.l)] := (Mem.one hI).open
  have HS : ∀ w', Chg (shI W b a c s).foot w w' → Cells w' al (evsC l) := HS
  have fin : ∀ {w' : World} {a' : Option Addr} {c' : Nat} {s' : Sh}, Mem w (shI W b a c s).foot w' [bk b (shB W s' a' c') 122, own 67 12 a' s'.l.length c' (evsC s'.l)] → Mem w (shI W b a c s).foot w' [shI W b a' c' s'] := fun m => m.close
  generalize hF0 : (shI W b a c s).foot = F0 at mm HS fin
  have hbase := ok.base; have hlen := ok.len; have hwin := ok.win
  have hls : s.len = s.base + ((s.l.length : Nat) : Int) := rfl
  refine f_enter (args := [_, _]) Try.func63 rfl rfl ?_
  refine c_sreg rfl ?_
  refine s1 (r_asi rfl) ?_
  refine wn ?_
  refine c_seq ?_
  refine c_sreg rfl ?_
  refine s1 (r_mvs rfl) ?_
  refine s1 (r_len rfl) ?_
  refine s1 (r_mvi rfl) ?_
  refine wn ?_
  refine c_block ?_
  refine c_loop (fun kk e w' => ∃ i : Nat, kk + i = l.length ∧ e 0 = .pointer (some ⟨b, 0, none⟩) ∧ e 1 = .slice al l.length cl ∧ e 11 = .slice al l.length cl ∧ e 12 = .int .i64 (l.length : Nat) ∧ e 13 = .int .i64 (i : Nat) ∧ Mem w F0 w' [bk b (shB W s a c) 122, own 67 12 a s.l.length c (evsC s.l)] ∧ ∀ j, j < i → okAt s.len l j) l.length ?_ ?_
  · exact ⟨0, rfl, rfl, rfl, rfl, rfl, rfl, mm, fun j hj => absurd hj (by omega)⟩
  clear mm
  rintro kk e w9 ⟨i, hki, h0, h1, h11, h12, h13, mm, hh⟩
  refine c_sreg rfl ?_
  refine s1 (r_lt h13 h12) ?_
  refine wn ?_
  refine c_seq ?_
  refine c_cond rfl (fun h => (c_skip (t_n ?_))) (fun h => (c_exit (t_x (t_x (b_x (t_n ?_))))))
  · have hi : i < l.length := by simp at h; omega
    have hni := hln l[i] (List.getElem_mem hi)
    clear h
    refine c_seq ?_
    refine c_block ?_
    refine c_sreg rfl ?_
    refine s1 (r_mvi h13) ?_
    refine s1 (r_ix h11 h13 (by omega) (by omega) (evs_some (HS _ mm.chg) hi)) ?_
    refine s1 (r_ldce rfl (HS _ mm.chg) (seg_evs l i hi) (evs_le l i hi) (by decide)) ?_
    refine so (o_al mm fun b2 w2 mm => ?_)
    refine s1 (r_asi rfl) ?_
    refine ss (o_sta mm 2 rfl rfl rfl rfl rfl (Nat.le_of_ble_eq_true rfl) fun w3 mm => ?_)
    refine wn ?_
    have mm : Mem w F0 _ [bk b (shB W s a c) 122, own 67 12 a s.l.length c (evsC s.l), bk b2 (evC l[i]) 67] := mm
    have bad : ∀ w', Mem w F0 w' [bk b (shB W s a c) 122, own 67 12 a s.l.length c (evsC s.l)] → ¬ okAt s.len l i → ∃ a' c', Value.int .i64 20 = .int .i64 (shPut W s l).2 ∧ Mem w F0 w' [shI W b a' c' (shPut W s l).1] := fun w' m hno => by
      have hg : gapOk s.len l = false := Bool.eq_false_iff.2 fun hg => hno (gapOk_all.1 hg i hi)
      have e1 : shPut W s l = (s, 20) := by unfold shPut; rw [if_pos hg]
      rw [e1]
      exact ⟨a, c, rfl, fin m⟩
    have next : ∀ w', Mem w F0 w' [bk b (shB W s a c) 122, own 67 12 a s.l.length c (evsC s.l)] → okAt s.len l i → ∀ j, j < i + 1 → okAt s.len l j := fun w' _ hok j hj => by
      rcases Nat.lt_or_ge j i with hlt | hge
      · exact hh j hlt
      · obtain rfl : j = i := by omega
        exact hok
    cases i with
    | zero =>
      by_cases hq : s.len + 1 < l[0].n
      · refine c_sdraw2 mixed [(0, some 0), (1, some 0), (2, some 0), (3, some 0), (5, some 0), (4, some 2), (6, none), (7, some 2), (8, some 0), (9, some 0), (10, some 0), (11, some 0), (12, some 0), (13, some 0), (14, some 0), (16, some 0), (17, some 0), (18, some 0), (19, some 0), (20, some 0), (15, some 2), (21, some 2), (22, some 0), (23, some 0), (24, some 0), (27, some 0), (28, some 0), (29, some 0), (30, some 0), (31, some 0), (25, some 2), (26, some 0), (32, some 2), (33, some 0), (34, some 0), (35, some 0), (36, some 0)] [0, 0, 0, 0, 0, 0, 2, 2, 0, 0, 0, 0, 0, 0, 0, 0, 0, 0, 0, 0, 0, 2, 0, 0, 0, 0, 0, 0, 0, 0, 0, 0, 2, 0, 0, 0, 0] (Sof mm) (Sof mm) (fun _ h => h) (by kernel_rfl) rfl rfl (by kernel_rfl) (fun w4 hc => ?_)
        have mm := mm.frame hc
        refine q01 rfl (fun w => r_mvi rfl) ?_
        refine q01 rfl (fun w => r_eq rfl rfl) ?_
        refine q01 rfl (fun w => r_mvb rfl) ?_
        refine q0K rfl rfl (show _ = Value.bool true from rfl) (fun w => r_fa rfl) ?_
        refine q0K rfl rfl (show _ = Value.bool true from rfl) (fun w => r_mvp h0) ?_
        refine qAK rfl rfl (show _ = Value.bool true from rfl) (fun w m => r_ld rfl (m.b 2 rfl) rfl) mm ?_
        refine qoK rfl rfl (show _ = Value.bool true from rfl) (o_c1 rfl (c_shLen W s b a c hbase hlen _ (mm.b 0 rfl)) ?_)
        rintro _ w5 ⟨rfl, hc⟩
        have mm := mm.frame hc
        refine ⟨mm, ?_⟩
        refine qAK rfl rfl (show _ = Value.bool true from rfl) (fun w m => r_add rfl rfl (wi (n := s.len + 1) (by omega) (by omega))) mm ?_
        refine q0K rfl rfl (show _ = Value.bool true from rfl) (fun w => r_gt rfl rfl) ?_
        refine q01 rfl (fun w => r_and (show _ = Value.bool true from rfl) (congrArg Value.bool (decide_eq_true hq))) ?_
        refine q01 rfl (fun w => r_mvb rfl) ?_
        refine q0N rfl rfl (show _ = Value.bool true from rfl) ?_
        refine q0N rfl rfl (show _ = Value.bool true from rfl) ?_
        refine q0N rfl rfl (show _ = Value.bool true from rfl) ?_
        refine q0U rfl rfl rfl ?_
        refine q0U rfl rfl rfl ?_
        refine q0U rfl rfl rfl ?_
        refine q0U rfl rfl rfl ?_
        refine q0U rfl rfl rfl ?_
        refine q0U rfl rfl rfl ?_
        refine qAU rfl rfl rfl mm ?_
        refine qAU rfl rfl rfl mm ?_
        refine q0U rfl rfl rfl ?_
        refine q0U rfl rfl rfl ?_
        refine q0U rfl rfl rfl ?_
        refine q0U rfl rfl rfl ?_
        refine q0U rfl rfl rfl ?_
        refine q0U rfl rfl rfl ?_
        refine q0U rfl rfl rfl ?_
        refine q0U rfl rfl rfl ?_
        refine qAU rfl rfl rfl mm ?_
        refine q0U rfl rfl rfl ?_
        refine qAU rfl rfl rfl mm ?_
        refine q0U rfl rfl rfl ?_
        refine q0U rfl rfl rfl ?_
        refine q0N rfl rfl (show _ = Value.bool true from rfl) ?_
        refine q01 rfl (fun w => (r_or (u := false) (show _ = Value.bool true from rfl) rfl)) ?_
        refine qn ?_
        refine c_cond rfl (fun h => ?_) (fun h => (c_skip (b_n (t_n ?_))))
        rotate_left
        · exact tf h
        refine c_sreg rfl ?_
        refine s1 (r_asi rfl) ?_
        refine wn ?_
        exact c_ret (ret1 rfl rfl (bad _ (mm.pk [0, 1] (by decide)) (fun hok => by have := hok hi; omega)))
      · skip
        refine c_sdraw2 mixed [(0, some 0), (1, some 0), (2, some 0), (3, some 0), (5, some 0), (4, some 2), (6, none), (7, some 2), (8, some 0), (9, some 0), (10, some 0), (11, some 0), (12, some 0), (13, some 0), (14, some 0), (16, some 0), (17, some 0), (18, some 0), (19, some 0), (20, some 0), (15, some 2), (21, some 2), (22, some 0), (23, some 0), (24, some 0), (27, some 0), (28, some 0), (29, some 0), (30, some 0), (31, some 0), (25, some 2), (26, some 0), (32, some 2), (33, some 0), (34, some 0), (35, some 0), (36, some 0)] [0, 0, 0, 0, 0, 0, 2, 2, 0, 0, 0, 0, 0, 0, 0, 0, 0, 0, 0, 0, 0, 2, 0, 0, 0, 0, 0, 0, 0, 0, 0, 0, 2, 0, 0, 0, 0] (Sof mm) (Sof mm) (fun _ h => h) (by kernel_rfl) rfl rfl (by kernel_rfl) (fun w6 hc => ?_)
        have mm := mm.frame hc
        refine q01 rfl (fun w => r_mvi rfl) ?_
        refine q01 rfl (fun w => r_eq rfl rfl) ?_
        refine q01 rfl (fun w => r_mvb rfl) ?_
        refine q0K rfl rfl (show _ = Value.bool true from rfl) (fun w => r_fa rfl) ?_
        refine q0K rfl rfl (show _ = Value.bool true from rfl) (fun w => r_mvp h0) ?_
        refine qAK rfl rfl (show _ = Value.bool true from rfl) (fun w m => r_ld rfl (m.b 2 rfl) rfl) mm ?_
        refine qoK rfl rfl (show _ = Value.bool true from rfl) (o_c1 rfl (c_shLen W s b a c hbase hlen _ (mm.b 0 rfl)) ?_)
        rintro _ w7 ⟨rfl, hc⟩
        have mm := mm.frame hc
        refine ⟨mm, ?_⟩
        refine qAK rfl rfl (show _ = Value.bool true from rfl) (fun w m => r_add rfl rfl (wi (n := s.len + 1) (by omega) (by omega))) mm ?_
        refine q0K rfl rfl (show _ = Value.bool true from rfl) (fun w => r_gt rfl rfl) ?_
        refine q01 rfl (fun w => r_and (show _ = Value.bool true from rfl) (congrArg Value.bool (decide_eq_false hq))) ?_
        refine q01 rfl (fun w => r_mvb rfl) ?_
        refine q0K rfl rfl (show _ = Value.bool false from rfl) (fun w => r_mvi rfl) ?_
        refine q0K rfl rfl (show _ = Value.bool false from rfl) (fun w => r_gt rfl rfl) ?_
        refine q0K rfl rfl (show _ = Value.bool false from rfl) (fun w => r_mvb rfl) ?_
        refine q0N rfl rfl (congrArg Value.bool (decide_eq_false (by omega))) ?_
        refine q0N rfl rfl (congrArg Value.bool (decide_eq_false (by omega))) ?_
        refine q0N rfl rfl (congrArg Value.bool (decide_eq_false (by omega))) ?_
        refine q0N rfl rfl (congrArg Value.bool (decide_eq_false (by omega))) ?_
        refine q0N rfl rfl (congrArg Value.bool (decide_eq_false (by omega))) ?_
        refine q0N rfl rfl (congrArg Value.bool (decide_eq_false (by omega))) ?_
        refine qAN rfl rfl (congrArg Value.bool (decide_eq_false (by omega))) mm ?_
        refine qAN rfl rfl (congrArg Value.bool (decide_eq_false (by omega))) mm ?_
        refine q0N rfl rfl (congrArg Value.bool (decide_eq_false (by omega))) ?_
        refine q0N rfl rfl (congrArg Value.bool (decide_eq_false (by omega))) ?_
        refine q0U rfl rfl rfl ?_
        refine q0U rfl rfl rfl ?_
        refine q0U rfl rfl rfl ?_
        refine q0U rfl rfl rfl ?_
        refine q0U rfl rfl rfl ?_
        refine q0U rfl rfl rfl ?_
        refine qAU rfl rfl rfl mm ?_
        refine q0U rfl rfl rfl ?_
        refine qAU rfl rfl rfl mm ?_
        refine q0U rfl rfl rfl ?_
        refine q0N rfl rfl (congrArg Value.bool (decide_eq_false (by omega))) ?_
        refine q0K rfl rfl (show _ = Value.bool false from rfl) (fun w => (r_and (u := false) (show _ = Value.bool false from congrArg Value.bool (decide_eq_false (by omega))) rfl)) ?_
        refine q01 rfl (fun w => r_or (show _ = Value.bool false from rfl) rfl) ?_
        refine qn ?_
        refine c_cond rfl (fun h => ?_) (fun h => (c_skip (b_n (t_n ?_))))
        · exact ft h
        clear h
        refine c_region rfl ?_
        refine s1 (r_add h13 rfl (wi (by omega) (by omega))) ?_
        refine s1 (r_mvi rfl) ?_
        refine wn (t_n ?_)
        exact ⟨kk - 1, by omega, 1, by omega, h0, h1, h11, h12, rfl, mm.pk [0, 1] (by decide), next _ (mm.pk [0, 1] (by decide)) (fun _ => by omega)⟩
    | succ i =>
      have hi' : i < l.length := by omega
      have hpi := hln l[i] (List.getElem_mem hi')
      by_cases hq : l[i + 1].n < l[i].n
      · skip
        refine c_sdraw2 mixed [(0, some 0), (1, some 0), (2, some 0), (3, some 0), (5, some 0), (4, some 2), (6, none), (7, some 2), (8, some 0), (9, some 0), (10, some 0), (11, some 0), (12, some 0), (13, some 0), (14, some 0), (16, some 0), (17, some 0), (18, some 0), (19, some 0), (20, some 0), (15, some 2), (21, some 2), (22, some 0), (23, some 0), (24, some 0), (27, some 0), (28, some 0), (29, some 0), (30, some 0), (31, some 0), (25, some 2), (26, some 0), (32, some 2), (33, some 0), (34, some 0), (35, some 0), (36, some 0)] [0, 0, 0, 0, 0, 0, 2, 2, 0, 0, 0, 0, 0, 0, 0, 0, 0, 0, 0, 0, 0, 2, 0, 0, 0, 0, 0, 0, 0, 0, 0, 0, 2, 0, 0, 0, 0] (Sof mm) (Sof mm) (fun _ h => h) (by kernel_rfl) rfl rfl (by kernel_rfl) (fun w8 hc => ?_)
        have mm := mm.frame hc
        refine q01 rfl (fun w => r_mvi rfl) ?_
        refine q01 rfl (fun w => r_eq rfl rfl) ?_
        refine q01 rfl (fun w => r_mvb rfl) ?_
        refine q0N rfl rfl (congrArg Value.bool (decide_eq_false (p := ((i + 1 : Nat) : Int) = 0) (by omega))) ?_
        refine q0N rfl rfl (congrArg Value.bool (decide_eq_false (p := ((i + 1 : Nat) : Int) = 0) (by omega))) ?_
        refine qAN rfl rfl (congrArg Value.bool (decide_eq_false (p := ((i + 1 : Nat) : Int) = 0) (by omega))) mm ?_
        refine qoN rfl rfl (congrArg Value.bool (decide_eq_false (p := ((i + 1 : Nat) : Int) = 0) (by omega))) ⟨mm, ?_⟩
        refine qAN rfl rfl (congrArg Value.bool (decide_eq_false (p := ((i + 1 : Nat) : Int) = 0) (by omega))) mm ?_
        refine q0N rfl rfl (congrArg Value.bool (decide_eq_false (p := ((i + 1 : Nat) : Int) = 0) (by omega))) ?_
        refine q01 rfl (fun w => (r_and (u := false) (show _ = Value.bool false from congrArg Value.bool (decide_eq_false (p := ((i + 1 : Nat) : Int) = 0) (by omega))) rfl)) ?_
        refine q01 rfl (fun w => r_mvb rfl) ?_
        refine q0K rfl rfl (show _ = Value.bool false from rfl) (fun w => r_mvi rfl) ?_
        refine q0K rfl rfl (show _ = Value.bool false from rfl) (fun w => r_gt rfl rfl) ?_
        refine q0K rfl rfl (show _ = Value.bool false from rfl) (fun w => r_mvb rfl) ?_
        refine q0K rfl rfl (congrArg Value.bool (decide_eq_true (p := (0 : Int) < ((i + 1 : Nat) : Int)) (by omega))) (fun w => r_fa rfl) ?_
        refine q0K rfl rfl (congrArg Value.bool (decide_eq_true (p := (0 : Int) < ((i + 1 : Nat) : Int)) (by omega))) (fun w => r_mvs h1) ?_
        refine q0K rfl rfl (congrArg Value.bool (decide_eq_true (p := (0 : Int) < ((i + 1 : Nat) : Int)) (by omega))) (fun w => r_mvi rfl) ?_
        refine q0K rfl rfl (congrArg Value.bool (decide_eq_true (p := (0 : Int) < ((i + 1 : Nat) : Int)) (by omega))) (fun w => r_sub rfl rfl (show IntKind.i64.wrap (((i + 1 : Nat) : Int) - 1) = ((i : Nat) : Int) from by rw [wi (by omega) (by omega)]; omega)) ?_
        refine q0K rfl rfl (congrArg Value.bool (decide_eq_true (p := (0 : Int) < ((i + 1 : Nat) : Int)) (by omega))) (fun w => r_ix rfl rfl (by omega) (by omega) (evs_some (HS _ mm.chg) hi')) ?_
        refine q0K rfl rfl (congrArg Value.bool (decide_eq_true (p := (0 : Int) < ((i + 1 : Nat) : Int)) (by omega))) (fun w => r_fac rfl (evs_some (HS _ mm.chg) hi')) ?_
        refine qAK rfl rfl (congrArg Value.bool (decide_eq_true (p := (0 : Int) < ((i + 1 : Nat) : Int)) (by omega))) (fun w m => r_ld rfl (m.b 2 rfl) rfl) mm ?_
        refine qAK rfl rfl (congrArg Value.bool (decide_eq_true (p := (0 : Int) < ((i + 1 : Nat) : Int)) (by omega))) (fun w m => r_ldc rfl (HS _ m.chg) (nth_seg _ _ 12 1 _ (by rw [seg_evs l i hi']; rfl))) mm ?_
        refine q0K rfl rfl (congrArg Value.bool (decide_eq_true (p := (0 : Int) < ((i + 1 : Nat) : Int)) (by omega))) (fun w => r_lt rfl rfl) ?_
        refine q0K rfl rfl (congrArg Value.bool (decide_eq_true (p := (0 : Int) < ((i + 1 : Nat) : Int)) (by omega))) (fun w => r_mvb rfl) ?_
        refine q0N rfl rfl (congrArg Value.bool (decide_eq_true hq)) ?_
        refine q0N rfl rfl (congrArg Value.bool (decide_eq_true hq)) ?_
        refine q0N rfl rfl (congrArg Value.bool (decide_eq_true hq)) ?_
        refine q0N rfl rfl (congrArg Value.bool (decide_eq_true hq)) ?_
        refine q0N rfl rfl (congrArg Value.bool (decide_eq_true hq)) ?_
        refine q0N rfl rfl (congrArg Value.bool (decide_eq_true hq)) ?_
        refine qAN rfl rfl (congrArg Value.bool (decide_eq_true hq)) mm ?_
        refine q0N rfl rfl (congrArg Value.bool (decide_eq_true hq)) ?_
        refine qAN rfl rfl (congrArg Value.bool (decide_eq_true hq)) mm ?_
        refine q0N rfl rfl (congrArg Value.bool (decide_eq_true hq)) ?_
        refine q0K rfl rfl (congrArg Value.bool (decide_eq_true (p := (0 : Int) < ((i + 1 : Nat) : Int)) (by omega))) (fun w => (r_or (u := false) (show _ = Value.bool true from congrArg Value.bool (decide_eq_true hq)) rfl)) ?_
        refine q0K rfl rfl (show _ = Value.bool false from rfl) (fun w => r_and (congrArg Value.bool (decide_eq_true (p := (0 : Int) < ((i + 1 : Nat) : Int)) (by omega))) rfl) ?_
        refine q01 rfl (fun w => r_or (show _ = Value.bool false from rfl) rfl) ?_
        refine qn ?_
        refine c_cond rfl (fun h => ?_) (fun h => (c_skip (b_n (t_n ?_))))
        rotate_left
        · exact tf h
        refine c_sreg rfl ?_
        refine s1 (r_asi rfl) ?_
        refine wn ?_
        exact c_ret (ret1 rfl rfl (bad _ (mm.pk [0, 1] (by decide)) (fun hok => by have := hok hi; omega)))
      · skip
        refine c_sdraw2 mixed [(0, some 0), (1, some 0), (2, some 0), (3, some 0), (5, some 0), (4, some 2), (6, none), (7, some 2), (8, some 0), (9, some 0), (10, some 0), (11, some 0), (12, some 0), (13, some 0), (14, some 0), (16, some 0), (17, some 0), (18, some 0), (19, some 0), (20, some 0), (15, some 2), (21, some 2), (22, some 0), (23, some 0), (24, some 0), (27, some 0), (28, some 0), (29, some 0), (30, some 0), (31, some 0), (25, some 2), (26, some 0), (32, some 2), (33, some 0), (34, some 0), (35, some 0), (36, some 0)] [0, 0, 0, 0, 0, 0, 2, 2, 0, 0, 0, 0, 0, 0, 0, 0, 0, 0, 0, 0, 0, 2, 0, 0, 0, 0, 0, 0, 0, 0, 0, 0, 2, 0, 0, 0, 0] (Sof mm) (Sof mm) (fun _ h => h) (by kernel_rfl) rfl rfl (by kernel_rfl) (fun w9 hc => ?_)
        have mm := mm.frame hc
        refine q01 rfl (fun w => r_mvi rfl) ?_
        refine q01 rfl (fun w => r_eq rfl rfl) ?_
        refine q01 rfl (fun w => r_mvb rfl) ?_
        refine q0N rfl rfl (congrArg Value.bool (decide_eq_false (p := ((i + 1 : Nat) : Int) = 0) (by omega))) ?_
        refine q0N rfl rfl (congrArg Value.bool (decide_eq_false (p := ((i + 1 : Nat) : Int) = 0) (by omega))) ?_
        refine qAN rfl rfl (congrArg Value.bool (decide_eq_false (p := ((i + 1 : Nat) : Int) = 0) (by omega))) mm ?_
        refine qoN rfl rfl (congrArg Value.bool (decide_eq_false (p := ((i + 1 : Nat) : Int) = 0) (by omega))) ⟨mm, ?_⟩
        refine qAN rfl rfl (congrArg Value.bool (decide_eq_false (p := ((i + 1 : Nat) : Int) = 0) (by omega))) mm ?_
        refine q0N rfl rfl (congrArg Value.bool (decide_eq_false (p := ((i + 1 : Nat) : Int) = 0) (by omega))) ?_
        refine q01 rfl (fun w => (r_and (u := false) (show _ = Value.bool false from congrArg Value.bool (decide_eq_false (p := ((i + 1 : Nat) : Int) = 0) (by omega))) rfl)) ?_
        refine q01 rfl (fun w => r_mvb rfl) ?_
        refine q0K rfl rfl (show _ = Value.bool false from rfl) (fun w => r_mvi rfl) ?_
        refine q0K rfl rfl (show _ = Value.bool false from rfl) (fun w => r_gt rfl rfl) ?_
        refine q0K rfl rfl (show _ = Value.bool false from rfl) (fun w => r_mvb rfl) ?_
        refine q0K rfl rfl (congrArg Value.bool (decide_eq_true (p := (0 : Int) < ((i + 1 : Nat) : Int)) (by omega))) (fun w => r_fa rfl) ?_
        refine q0K rfl rfl (congrArg Value.bool (decide_eq_true (p := (0 : Int) < ((i + 1 : Nat) : Int)) (by omega))) (fun w => r_mvs h1) ?_
        refine q0K rfl rfl (congrArg Value.bool (decide_eq_true (p := (0 : Int) < ((i + 1 : Nat) : Int)) (by omega))) (fun w => r_mvi rfl) ?_
        refine q0K rfl rfl (congrArg Value.bool (decide_eq_true (p := (0 : Int) < ((i + 1 : Nat) : Int)) (by omega))) (fun w => r_sub rfl rfl (show IntKind.i64.wrap (((i + 1 : Nat) : Int) - 1) = ((i : Nat) : Int) from by rw [wi (by omega) (by omega)]; omega)) ?_
        refine q0K rfl rfl (congrArg Value.bool (decide_eq_true (p := (0 : Int) < ((i + 1 : Nat) : Int)) (by omega))) (fun w => r_ix rfl rfl (by omega) (by omega) (evs_some (HS _ mm.chg) hi')) ?_
        refine q0K rfl rfl (congrArg Value.bool (decide_eq_true (p := (0 : Int) < ((i + 1 : Nat) : Int)) (by omega))) (fun w => r_fac rfl (evs_some (HS _ mm.chg) hi')) ?_
        refine qAK rfl rfl (congrArg Value.bool (decide_eq_true (p := (0 : Int) < ((i + 1 : Nat) : Int)) (by omega))) (fun w m => r_ld rfl (m.b 2 rfl) rfl) mm ?_
        refine qAK rfl rfl (congrArg Value.bool (decide_eq_true (p := (0 : Int) < ((i + 1 : Nat) : Int)) (by omega))) (fun w m => r_ldc rfl (HS _ m.chg) (nth_seg _ _ 12 1 _ (by rw [seg_evs l i hi']; rfl))) mm ?_
        refine q0K rfl rfl (congrArg Value.bool (decide_eq_true (p := (0 : Int) < ((i + 1 : Nat) : Int)) (by omega))) (fun w => r_lt rfl rfl) ?_
        refine q0K rfl rfl (congrArg Value.bool (decide_eq_true (p := (0 : Int) < ((i + 1 : Nat) : Int)) (by omega))) (fun w => r_mvb rfl) ?_
        refine q0K rfl rfl (congrArg Value.bool (decide_eq_false hq)) (fun w => r_fa rfl) ?_
        refine q0K rfl rfl (congrArg Value.bool (decide_eq_false hq)) (fun w => r_mvs h1) ?_
        refine q0K rfl rfl (congrArg Value.bool (decide_eq_false hq)) (fun w => r_mvi rfl) ?_
        refine q0K rfl rfl (congrArg Value.bool (decide_eq_false hq)) (fun w => r_sub rfl rfl (show IntKind.i64.wrap (((i + 1 : Nat) : Int) - 1) = ((i : Nat) : Int) from by rw [wi (by omega) (by omega)]; omega)) ?_
        refine q0K rfl rfl (congrArg Value.bool (decide_eq_false hq)) (fun w => r_ix rfl rfl (by omega) (by omega) (evs_some (HS _ mm.chg) hi')) ?_
        refine q0K rfl rfl (congrArg Value.bool (decide_eq_false hq)) (fun w => r_fac rfl (evs_some (HS _ mm.chg) hi')) ?_
        refine qAK rfl rfl (congrArg Value.bool (decide_eq_false hq)) (fun w m => r_ld rfl (m.b 2 rfl) rfl) mm ?_
        refine q0K rfl rfl (congrArg Value.bool (decide_eq_false hq)) (fun w => r_sub rfl rfl (wi (n := l[i + 1].n - 1) (by omega) (by omega))) ?_
        refine qAK rfl rfl (congrArg Value.bool (decide_eq_false hq)) (fun w m => r_ldc rfl (HS _ m.chg) (nth_seg _ _ 12 1 _ (by rw [seg_evs l i hi']; rfl))) mm ?_
        refine q0K rfl rfl (congrArg Value.bool (decide_eq_false hq)) (fun w => r_ne rfl rfl) ?_
        refine q0K rfl rfl (congrArg Value.bool (decide_eq_true (p := (0 : Int) < ((i + 1 : Nat) : Int)) (by omega))) (fun w => r_or (congrArg Value.bool (decide_eq_false hq)) rfl) ?_
        refine q0K rfl rfl (show _ = Value.bool false from rfl) (fun w => r_and (congrArg Value.bool (decide_eq_true (p := (0 : Int) < ((i + 1 : Nat) : Int)) (by omega))) rfl) ?_
        refine q01 rfl (fun w => r_or (show _ = Value.bool false from rfl) rfl) ?_
        refine qn ?_
        refine c_cond rfl (fun h => ?_) (fun h => (c_skip (b_n (t_n ?_))))
        · have hne : l[i + 1].n - 1 ≠ l[i].n := by simpa using h
          refine c_sreg rfl ?_
          refine s1 (r_asi rfl) ?_
          refine wn ?_
          exact c_ret (ret1 rfl rfl (bad _ (mm.pk [0, 1] (by decide)) (fun hok => by have := hok hi; omega)))
        have heq : l[i + 1].n - 1 = l[i].n := by simpa using h
        clear h
        refine c_region rfl ?_
        refine s1 (r_add h13 rfl (wi (by omega) (by omega))) ?_
        refine s1 (r_mvi rfl) ?_
        refine wn (t_n ?_)
        exact ⟨kk - 1, by omega, i + 2, by omega, h0, h1, h11, h12, rfl, mm.pk [0, 1] (by decide), next _ (mm.pk [0, 1] (by decide)) (fun _ => by omega)⟩
  have hi : i = l.length := by simp at h; omega
  subst hi
  clear h
  have hg := gapOk_all.2 hh
  clear hh h13
  refine c_sreg rfl ?_
  refine s1 (r_mvp h0) ?_
  refine so (o_c1 rfl (c_shLen W s b a c hbase hlen _ (mm.b 0 rfl)) ?_)
  rintro _ w10 ⟨rfl, hc⟩
  have mm := mm.frame hc
  refine so (o_al mm fun b11 w11 mm => ?_)
  refine ss (o_st mm 2 rfl rfl rfl rfl rfl fun w12 mm => ?_)
  refine wn ?_
  have mm : Mem w F0 _ [bk b (shB W s a c) 122, own 67 12 a s.l.length c (evsC s.l), bk b11 [Value.int .i64 s.len] 3] := mm
  have hF := fun w' (hc : Chg No _ w') (y : Ev) => c_shP1 y s.len b11 w' ((mm.frame hc).b 2 rfl)
  refine c_sreg rfl ?_
  refine s1 (r_mvs h1) ?_
  refine s1 (r_fn1 rfl) ?_
  refine so (o_c2 rfl rfl (c_indexF l (by omega) _ _ _ (HS _ mm.chg) hF) ?_)
  rintro _ w13 ⟨j, rfl, hj, hc⟩
  have mm := mm.frame hc
  refine s1 (r_asi rfl) ?_
  refine wn ?_
  have mm := mm.pk [0, 1] (by decide)
  refine c_seq ?_
  refine c_sreg rfl ?_
  refine s1 (r_mvi rfl) ?_
  refine s1 (r_lt rfl rfl) ?_
  refine wn ?_
  refine c_cond rfl (fun h => ?_) (fun h => (c_skip (t_n ?_)))
  · have hab : above s.len l = [] := by
      rcases hj.above with ⟨_, hab⟩ | ⟨k, rfl, _, _⟩
      · exact hab
      · simp at h; omega
    refine c_sreg rfl ?_
    refine s1 (r_asi rfl) ?_
    refine wn ?_
    have e1 : shPut W s l = (s, 0) := by unfold shPut; rw [if_neg (by rw [hg]; decide), if_pos hab]
    rw [e1]
    exact c_ret (ret1 rfl rfl ⟨a, c, rfl, fin mm⟩)
  obtain ⟨k, rfl, hk, hab⟩ : ∃ k : Nat, j = k ∧ k < l.length ∧ above s.len l = l.drop k := by
    rcases hj.above with ⟨rfl, _⟩ | hh
    · simp at h
    · exact hh
  clear h hj hF
  refine c_sreg rfl ?_
  refine s1 (r_mvs h1) ?_
  refine s1 (r_mvi rfl) ?_
  refine s1 (r_sll rfl rfl (by omega) (by omega)) ?_
  refine s1 (r_ass rfl) ?_
  refine wn ?_
  obtain ⟨fr, hfr⟩ : ∃ fr, fr = l.drop k := ⟨_, rfl⟩
  have hfl : fr.length = l.length - k := by rw [hfr, List.length_drop]
  have HS2 : ∀ w', Chg F0 w w' → Cells w' (slA al cl k 12) (evsC fr) := fun w' hc => by
    have h1 := Cells.sl (HS w' hc) (evsC_length l) hcl k
    rw [evsC_drop, ← hfr] at h1
    exact h1
  have hput : ¬ (W < ((s.l.length + fr.length : Nat) : Int)) → shPut W s l = ({ s with l := s.l ++ fr }, 0) := fun hw => by
    unfold shPut
    rw [if_neg (by rw [hg]; decide), hab, ← hfr, if_neg (by intro h0; rw [h0] at hfl; simp only [List.length_nil] at hfl; omega), if_neg hw]
  have hput2 : W < ((s.l.length + fr.length : Nat) : Int) → shPut W s l = (s, 21) := fun hw => by
    unfold shPut
    rw [if_neg (by rw [hg]; decide), hab, ← hfr, if_neg (by intro h0; rw [h0] at hfl; simp only [List.length_nil] at hfl; omega), if_pos hw]
  have hsum : IntKind.i64.wrap (((s.l.length : Nat) : Int) + ((fr.length : Nat) : Int)) = ((s.l.length + fr.length : Nat) : Int) := by rw [wi (by omega) (by omega)]; omega
  refine c_seq ?_
  refine c_sdraw2 mixed [(0, some 0), (1, some 0), (2, some 0), (5, some 0), (6, some 0), (8, some 0), (9, some 0), (10, some 0), (3, some 2), (4, some 0), (7, some 0), (11, some 2), (12, some 0)] [0, 0, 0, 0, 0, 0, 0, 0, 0, 0, 0, 2, 0] (Sof mm) (Sof mm) (fun _ h => h) (by kernel_rfl) rfl rfl (by kernel_rfl) (fun w14 hc => ?_)
  have mm := mm.frame hc
  refine q01 rfl (fun w => r_mvp h0) ?_
  refine q01 rfl (fun w => r_nil rfl) ?_
  refine q01 rfl (fun w => r_fa rfl) ?_
  refine q01 rfl (fun w => r_mvs (show _ = Value.slice (slA al cl k 12) fr.length (cl - k) by rw [hfl]; rfl)) ?_
  refine q01 rfl (fun w => r_len rfl) ?_
  refine q01 rfl (fun w => r_mvp h0) ?_
  refine q01 rfl (fun w => r_nil rfl) ?_
  refine q01 rfl (fun w => r_fa rfl) ?_
  refine qA1 rfl (fun w m => r_ld rfl (m.b 0 rfl) rfl) mm ?_
  refine q01 rfl (fun w => r_len rfl) ?_
  refine q01 rfl (fun w => r_add rfl rfl hsum) ?_
  refine qA1 rfl (fun w m => r_ld rfl (m.b 0 rfl) rfl) mm ?_
  refine q01 rfl (fun w => r_gt rfl rfl) ?_
  refine qn ?_
  refine c_cond rfl (fun h => ?_) (fun h => (c_skip (t_n ?_)))
  · refine c_sreg rfl ?_
    refine s1 (r_asi rfl) ?_
    refine wn ?_
    rw [hput2 (of_decide_eq_true h)]
    exact c_ret (ret1 rfl rfl ⟨a, c, rfl, fin mm⟩)
  rw [hput (of_decide_eq_false h)]
  have hnw := of_decide_eq_false h
  clear h hput hput2
  refine c_sreg rfl ?_
  refine s1 (r_mvp h0) ?_
  refine s1 (r_nil rfl) ?_
  refine s1 (r_fa rfl) ?_
  refine s1 (r_ld rfl (mm.b 0 rfl) rfl) ?_
  refine s1 (r_len rfl) ?_
  refine s1 (r_mvs (show _ = Value.slice (slA al cl k 12) fr.length (cl - k) by rw [hfl]; rfl)) ?_
  refine s1 (r_len rfl) ?_
  refine s1 (r_add rfl rfl hsum) ?_
  refine so (o_mk mm rfl rfl (by omega) (by unfold maxLen; omega) fun a15 w15 mm => ?_)
  refine s1 (r_ass rfl) ?_
  refine wn ?_
  refine c_sreg rfl ?_
  refine s1 (r_mvs rfl) ?_
  refine s1 (r_mvp h0) ?_
  refine s1 (r_nil rfl) ?_
  refine s1 (r_fa rfl) ?_
  refine s1 (r_ld rfl (mm.b 0 rfl) rfl) ?_
  refine so (o_cpy (q := 0) mm 2 rfl (show _ = Value.slice (Option.map (fun x => x.add (0 * 12)) a15) _ _ by rw [Nat.zero_mul, opt_add0]; rfl) rfl (mm.c 1 rfl) (evsC_length s.l) (ones_evs s.l) (by omega) (by omega) fun w16 mm => ?_)
  refine wn ?_
  refine c_sreg rfl ?_
  refine s1 (r_mvs rfl) ?_
  refine s1 (r_mvp h0) ?_
  refine s1 (r_nil rfl) ?_
  refine s1 (r_fa rfl) ?_
  refine s1 (r_ld rfl (mm.b 0 rfl) rfl) ?_
  refine s1 (r_len rfl) ?_
  refine s1 (r_sll rfl rfl (by omega) (by omega)) ?_
  refine s1 (r_mvs (show _ = Value.slice (slA al cl k 12) fr.length (cl - k) by rw [hfl]; rfl)) ?_
  refine so (o_cpy (q := s.l.length) mm 2 rfl (show _ = Value.slice (Option.map (fun x => x.add (s.l.length * 12)) a15) fr.length fr.length by show Value.slice (slA a15 (s.l.length + fr.length) s.l.length 12) (s.l.length + fr.length - s.l.length) (s.l.length + fr.length - s.l.length) = _; unfold slA; rw [if_neg (by omega), Nat.add_sub_cancel_left]) rfl (HS2 _ mm.chg) (evsC_length fr) (ones_evs fr) (by omega) (by omega) fun w17 mm => ?_)
  refine wn ?_
  refine c_sreg rfl ?_
  refine s1 (r_mvp h0) ?_
  refine s1 (r_mvs rfl) ?_
  refine s1 (r_nil rfl) ?_
  refine s1 (r_fa rfl) ?_
  refine ss (o_st mm 0 rfl rfl rfl rfl rfl fun w18 mm => ?_)
  refine wn ?_
  refine c_sreg rfl ?_
  refine s1 (r_asi rfl) ?_
  refine wn ?_
  have hle : (s.l ++ fr).length = s.l.length + fr.length := List.length_append
  have hz : splice (splice (zrep (evC evZ) (s.l.length + fr.length)) 0 (evsC s.l)) (s.l.length * 12) (evsC fr) = evsC (s.l ++ fr) := by
    rw [← evsC_length s.l, splice_two _ _ _ (by rw [zrep_length, evsC_length, evsC_length]; show _ * 12 = _; omega), evsC_append]
  have mm := (mm.pk [0, 2] (by decide)).castS (cs' := shB W { s with l := s.l ++ fr } a15 (s.l.length + fr.length)) (n' := (s.l ++ fr).length) (ds' := evsC (s.l ++ fr)) (by simp only [shB, hle]; rfl) hle.symm (by rw [← hz, Nat.zero_mul]; rfl)
  exact c_ret (ret1 rfl rfl ⟨a15, s.l.length + fr.length, rfl, fin mm⟩)
end Go.Proofs.Ytbcpabfemejlgaa
/- shelf.Shelf's From, Cut; clock.Join: walks. -/
namespace Go.Proofs.Ytbcpabfemejlgaa
open K
set_option maxRecDepth 100000
set_option maxHeartbeats 4000000

theorem above_len (n : Int) (l : List Ev) : (above n l).length ≤ l.length := by
  obtain ⟨k, h1, h2, _⟩ := above_sub n l
  rw [h2, List.length_drop]; omega
theorem c_shFrom (W : Int) (s : Sh) (hl : s.l.length ≤ 1000000) (b : Nat) (a : Option Addr) (c : Nat) (hc : s.l.length ≤ c) (n : Int) (w : World) (hb : w.heap[b]? = some (.cells (shB W s a c).toArray 122 (0, 0))) (H : Cells w a (evsC s.l)) :
    Cl Try.prog 73 #[.pointer (some ⟨b, 0, none⟩), .int .i64 n] w
      (fun r w' => ∃ a' c', r = .slice a' (above n s.l).length c' ∧ Chg No w w' ∧ New w w' (own 67 12 a' (above n s.l).length c' (evsC (above n s.l)))) := by
  have hlt := (Array.getElem?_eq_some_iff.1 hb).1
  have hB : ∀ {w' : World} {L : List It}, Mem w No w' L → w'.heap[b]? = some (.cells (shB W s a c).toArray 122 (0, 0)) := fun m => (m.chg.same b hlt (fun h => h)).trans hb
  refine f_enter (args := [_, _]) Try.func73 rfl rfl ?_
  have mm := Mem.nil No w
  refine c_sreg rfl ?_
  refine so (o_bx mm rfl rfl fun b2 w2 mm => ?_)
  refine s1 (r_ass rfl) ?_
  refine wn ?_
  have mm : Mem w No _ [bk b2 [Value.int .i64 n] 3] := mm
  have hF := fun w' (hc : Chg No _ w') (y : Ev) => c_shF1 y n b2 w' ((mm.frame hc).b 0 rfl)
  refine c_sreg rfl ?_
  refine s1 (r_mvp rfl) ?_
  refine s1 (r_nil rfl) ?_
  refine s1 (r_fa rfl) ?_
  refine s1 (r_ld rfl ((hB) mm) rfl) ?_
  refine s1 (r_fn1 rfl) ?_
  refine so (o_c2 rfl rfl (c_indexF s.l (by omega) _ _ _ (mm.ro H) hF) ?_)
  rintro _ w3 ⟨j, rfl, hj, hc'⟩
  have mm := mm.frame hc'
  refine s1 (r_asi rfl) ?_
  refine wn ?_
  have mm := mm.pk [] (by decide)
  refine c_seq ?_
  refine c_sreg rfl ?_
  refine s1 (r_mvi rfl) ?_
  refine s1 (r_lt rfl rfl) ?_
  refine wn ?_
  refine c_cond rfl (fun h => ?_) (fun h => (c_skip (t_n ?_)))
  · have hab : above n s.l = [] := by
      rcases hj.above with ⟨_, hab⟩ | ⟨k, rfl, _, _⟩
      · exact hab
      · simp at h; omega
    refine c_sreg rfl ?_
    refine s1 (r_ass rfl) ?_
    refine wn ?_
    rw [hab]
    have mm := mm.nilrow (T := 67) (sz := 12)
    exact c_ret (ret1 rfl rfl ⟨none, 0, rfl, mm.chg, mm.isNew 0 rfl⟩)
  obtain ⟨k, rfl, hk, hab⟩ : ∃ k : Nat, j = k ∧ k < s.l.length ∧ above n s.l = s.l.drop k := by
    rcases hj.above with ⟨rfl, _⟩ | hh
    · simp at h
    · exact hh
  clear h hj hF
  rw [hab]
  have hdl : (s.l.drop k).length = s.l.length - k := List.length_drop
  have Hd : Cells w (slA a c k 12) (evsC (s.l.drop k)) := by
    have h1 := Cells.sl H (evsC_length s.l) hc k
    rwa [evsC_drop] at h1
  generalize s.l.drop k = fr at *
  refine c_sreg rfl ?_
  refine s1 (r_mvp rfl) ?_
  refine s1 (r_nil rfl) ?_
  refine s1 (r_fa rfl) ?_
  refine s1 (r_ld rfl ((hB) mm) rfl) ?_
  refine s1 (r_mvi rfl) ?_
  refine s1 (r_sll rfl rfl (by show (0 : Int) ≤ ((k : Nat) : Int); omega) (by show ((k : Nat) : Int) ≤ ((s.l.length : Nat) : Int); omega)) ?_
  refine so (o_c1 (show _ = Value.slice (slA a c k 12) fr.length (c - k) by rw [hdl]; rfl) (c_cloneE fr (by omega) _ (mm.ro Hd)) ?_)
  rintro _ w4 ⟨a4, c4, rfl, hc', hn⟩
  have mm := mm.new hc' hn
  refine s1 (r_ass rfl) ?_
  refine wn ?_
  exact c_ret (ret1 rfl rfl ⟨_, _, rfl, mm.chg, mm.isNew 0 rfl⟩)
theorem c_shCut (W : Int) (hW : W ≤ 4) (s : Sh) (ok : ShOk W s) (b : Nat) (a : Option Addr) (c : Nat) (n : Int) (hn0 : 0 ≤ n) (hn1 : n ≤ 1048576) (w : World) (hI : (shI W b a c s).holds w) :
    Cl Try.prog 90 #[.pointer (some ⟨b, 0, none⟩), .int .i64 n] w
      (fun r w' => ∃ a' c', r = .tuple #[] ∧ Mem w (shI W b a c s).foot w' [shI W b a' c' (shCut s n)]) := by
  have mm : Mem w (shI W b a c s).foot w [bk b (shB W s a c) 122, own 67 12 a s.l.length c (evsC s.l)] := (Mem.one hI).open
  have fin : ∀ {w' : World} {a' : Option Addr} {c' : Nat} {s' : Sh}, Mem w (shI W b a c s).foot w' [bk b (shB W s' a' c') 122, own 67 12 a' s'.l.length c' (evsC s'.l)] → Mem w (shI W b a c s).foot w' [shI W b a' c' s'] := fun m => m.close
  generalize hF0 : (shI W b a c s).foot = F0 at mm fin
  have hbase := ok.base; have hlen := ok.len; have hwin := ok.win
  have hls : s.len = s.base + ((s.l.length : Nat) : Int) := rfl
  have hcc := own_le (mm.o 1 rfl)
  refine f_enter (args := [_, _]) Try.func90 rfl rfl ?_
  refine c_sreg rfl ?_
  refine s1 (r_mvi rfl) ?_
  refine s1 (r_mvp rfl) ?_
  refine so (o_c1 rfl (c_shLen W s b a c hbase hlen _ (mm.b 0 rfl)) ?_)
  rintro _ w2 ⟨rfl, hc⟩
  have mm := mm.frame hc
  refine s1 (r_min2 rfl rfl) ?_
  refine s1 (r_asi rfl) ?_
  refine wn ?_
  refine c_seq ?_
  refine c_sreg rfl ?_
  refine s1 (r_mvi (show _ = Value.int .i64 (min n s.len) from rfl)) ?_
  refine s1 (r_mvp rfl) ?_
  refine s1 (r_nil rfl) ?_
  refine s1 (r_fa rfl) ?_
  refine s1 (r_ld rfl (mm.b 0 rfl) rfl) ?_
  refine s1 (r_le rfl rfl) ?_
  refine wn ?_
  refine c_cond rfl (fun h => ?_) (fun h => (c_skip (t_n ?_)))
  · have e1 : shCut s n = s := by unfold shCut; rw [if_pos (of_decide_eq_true h)]
    rw [e1]
    exact c_ret (ret0 rfl ⟨a, c, rfl, fin mm⟩)
  have hcond : ¬ min n s.len ≤ s.base := of_decide_eq_false h
  have e1 : shCut s n = ⟨min n s.len, s.l.drop (min n s.len - s.base).toNat⟩ := by unfold shCut; rw [if_neg hcond]
  clear h
  rw [e1]
  obtain ⟨k, hk⟩ : ∃ k : Nat, (k : Int) = min n s.len - s.base := ⟨(min n s.len - s.base).toNat, by omega⟩
  have hkl : k ≤ s.l.length := by omega
  rw [← hk]
  have hdl : (s.l.drop k).length = s.l.length - k := List.length_drop
  have Hd : ∀ {w' : World} {L : List It}, Mem w F0 w' ([bk b (shB W s a c) 122, own 67 12 a s.l.length c (evsC s.l)] ++ L) → Cells w' (slA a c k 12) (evsC (s.l.drop k)) := fun m => by
    have h1 := Cells.sl (m.c 1 rfl) (evsC_length s.l) hcc k
    rwa [evsC_drop] at h1
  have hkt : ((k : Nat) : Int).toNat = k := rfl
  rw [hkt]
  generalize s.l.drop k = fr at *
  refine c_sdraw2 mixed [(0, some 0), (1, some 0), (2, some 0), (3, some 0), (5, some 0), (6, some 0), (7, some 0), (8, some 0), (4, some 2), (9, some 2), (10, some 2), (11, some 0), (12, none), (13, some 0), (14, some 0), (15, none)] [0, 0, 0, 0, 0, 0, 0, 0, 0, 2, 2, 0, 0, 0, 0, 0] (Sof (mm.pk [0, 1] (by decide))) (Sof (mm.pk [0, 1] (by decide))) (fun _ h => h) (by kernel_rfl) rfl rfl (by kernel_rfl) (fun w3 hc => ?_)
  have mm := mm.frame hc
  refine q01 rfl (fun w => r_mvp rfl) ?_
  refine q01 rfl (fun w => r_mvp rfl) ?_
  refine q01 rfl (fun w => r_nil rfl) ?_
  refine q01 rfl (fun w => r_fa rfl) ?_
  refine q01 rfl (fun w => r_mvi (show _ = Value.int .i64 (min n s.len) from rfl)) ?_
  refine q01 rfl (fun w => r_mvp rfl) ?_
  refine q01 rfl (fun w => r_nil rfl) ?_
  refine q01 rfl (fun w => r_fa rfl) ?_
  refine qA1 rfl (fun w m => r_ld rfl (m.b 0 rfl) rfl) (mm.pk [0, 1] (by decide)) ?_
  refine qA1 rfl (fun w m => r_ld rfl (m.b 0 rfl) rfl) (mm.pk [0, 1] (by decide)) ?_
  refine qA1 rfl (fun w m => r_sub rfl rfl (show IntKind.i64.wrap (min n s.len - s.base) = ((k : Nat) : Int) from by rw [wi (by omega) (by omega)]; exact hk.symm)) (mm.pk [0, 1] (by decide)) ?_
  refine q01 rfl (fun w => r_sll rfl rfl (by omega) (by omega)) ?_
  refine qo rfl (o_c1 (show _ = Value.slice (slA a c k 12) fr.length (c - k) by rw [hdl]; rfl) (c_cloneE fr (by omega) _ (Hd (L := []) mm)) ?_)
  rintro _ w4 ⟨a4, c4, rfl, hc', hn⟩
  have mm := mm.new hc' hn
  refine ⟨trivial, ?_⟩
  refine q01 rfl (fun w => r_nil rfl) ?_
  refine q01 rfl (fun w => r_fa rfl) ?_
  refine qs rfl (o_st mm 0 rfl rfl rfl rfl rfl fun w5 mm => ⟨trivial, ?_⟩)
  refine qn ?_
  refine c_region rfl ?_
  refine s1 (r_mvp rfl) ?_
  refine s1 (r_mvi (show _ = Value.int .i64 (min n s.len) from rfl)) ?_
  refine s1 (r_nil rfl) ?_
  refine s1 (r_fa rfl) ?_
  refine ss (o_st mm 0 rfl rfl rfl rfl rfl fun w6 mm => ?_)
  refine wn (body_n ?_)
  have mm := (mm.pk [0, 2] (by decide)).castS (cs' := shB W ⟨min n s.len, fr⟩ a4 c4) (n' := fr.length) (ds' := evsC fr) rfl rfl rfl
  exact ret0 rfl ⟨a4, c4, rfl, fin mm⟩

theorem blt_clk {c : Clk} (i : Nat) (hi : i < 5) : Nat.blt ((i : Int).toNat) (clkC c).length = true := by
  match i, hi with
  | 0, _ => rfl | 1, _ => rfl | 2, _ => rfl | 3, _ => rfl | 4, _ => rfl
def joinTo (a b : Clk) : Nat → Clk
  | 0 => a
  | i + 1 => (joinTo a b i).set i (max ((joinTo a b i).get i) (b.get i))
theorem joinTo_get (a b : Clk) : ∀ i, i ≤ 5 → ∀ j, j < 5 → (joinTo a b i).get j = if j < i then max (a.get j) (b.get j) else a.get j
  | 0, _, j, _ => by rw [if_neg (by omega)]; rfl
  | i + 1, hi, j, hj => by
    have h1 := joinTo_get a b i (by omega) i (by omega)
    have h2 := joinTo_get a b i (by omega) j hj
    rw [if_neg (by omega)] at h1
    show ((joinTo a b i).set i (max ((joinTo a b i).get i) (b.get i))).get j = _
    rw [Clk.get_set _ _ _ (by omega) hj, h1]
    by_cases h : i = j
    · subst h; rw [if_pos rfl, if_pos (by omega)]
    · rw [if_neg h, h2]
      by_cases h3 : j < i
      · rw [if_pos h3, if_pos (by omega)]
      · rw [if_neg h3, if_neg (by omega)]
theorem joinTo_join (a b : Clk) : joinTo a b 5 = a.join b := Clk.ext' fun j hj => by rw [joinTo_get a b 5 (Nat.le_refl _) j hj, if_pos hj, Clk.get_join _ _ _ hj]
theorem c_join (x y : Clk) (w : World) : Cl Try.prog 65 #[.agg (clkC x).toArray, .agg (clkC y).toArray] w (fun r w' => r = .agg (clkC (x.join y)).toArray ∧ Chg No w w') := by
  refine f_enter (args := [_, _]) Try.func65 rfl rfl ?_
  have mm := Mem.nil No w
  refine c_sreg rfl ?_
  refine so (o_bxa mm rfl fun b2 w2 mm => ?_)
  refine so (o_bxa mm rfl fun b3 w3 mm => ?_)
  refine so (o_al mm fun b4 w4 mm => ?_)
  refine wn ?_
  have mm : Mem w No _ [bk b2 (clkC x) 31, bk b3 (clkC y) 31, bk b4 (clkC clk0) 31] := mm
  refine c_seq ?_
  refine c_sreg rfl ?_
  refine s1 (r_mvi rfl) ?_
  refine wn ?_
  refine c_block ?_
  refine c_loop (fun kk e w' => ∃ i : Nat, kk + i = 5 ∧ e 2 = .pointer (some ⟨b2, 0, none⟩) ∧ e 3 = .pointer (some ⟨b3, 0, none⟩) ∧ e 4 = .pointer (some ⟨b4, 0, none⟩) ∧ e 6 = .int .i64 (i : Nat) ∧ Mem w No w' [bk b2 (clkC (joinTo x y i)) 31, bk b3 (clkC y) 31, bk b4 (clkC clk0) 31]) 5 ?_ ?_
  · exact ⟨0, rfl, rfl, rfl, rfl, rfl, mm⟩
  clear mm
  rintro kk e w9 ⟨i, hki, h2, h3, h4, h6, mm⟩
  refine c_sreg rfl ?_
  refine s1 (r_lt h6 rfl) ?_
  refine wn ?_
  refine c_seq ?_
  refine c_cond rfl (fun h => (c_skip (t_n ?_))) (fun h => (c_exit (t_x (t_x (b_x (t_n ?_))))))
  · have hi : i < 5 := by simp at h; omega
    clear h
    refine c_seq ?_
    refine c_block ?_
    refine c_sreg rfl ?_
    refine s1 (r_mvi h6) ?_
    refine s1 (r_asi rfl) ?_
    refine wn ?_
    refine c_draw2 mixed [(0, some 0), (1, some 0), (2, some 0), (4, some 0), (5, some 0), (3, some 2), (6, some 2), (7, some 0), (8, some 0), (9, none)] [0, 0, 0, 0, 0, 0, 2, 0, 0, 0] (Sof mm) (Sof mm) (fun _ h => h) (by kernel_rfl) rfl rfl (by kernel_rfl) (fun w5 hc => ?_)
    have mm := mm.frame hc
    refine q01 rfl (fun w => r_mvi rfl) ?_
    refine q01 rfl (fun w => r_mvi rfl) ?_
    refine q01 rfl (fun w => r_ixa h2 rfl (by omega) (by omega)) ?_
    refine q01 rfl (fun w => r_mvi rfl) ?_
    refine q01 rfl (fun w => r_ixa h3 rfl (by omega) (by omega)) ?_
    refine qA1 rfl (fun w m => r_ld rfl (m.b 0 rfl) (by simp only [Nat.mul_one, Nat.zero_add]; exact nth_clk _ i hi)) mm ?_
    refine qA1 rfl (fun w m => r_ld rfl (m.b 1 rfl) (by simp only [Nat.mul_one, Nat.zero_add]; exact nth_clk _ i hi)) mm ?_
    refine q01 rfl (fun w => r_max2 rfl rfl) ?_
    refine q01 rfl (fun w => r_ixa h2 rfl (by omega) (by omega)) ?_
    refine qs rfl (o_st mm 0 rfl rfl rfl rfl (by simp only [Nat.mul_one, Nat.zero_add]; exact blt_clk i hi) fun w6 mm => ⟨trivial, ?_⟩)
    refine qn (b_n (t_n ?_))
    have mm := mm.castL (congrArg (fun z => [bk b2 z 31, bk b3 (clkC y) 31, bk b4 (clkC clk0) 31]) (show setN (clkC (joinTo x y i)) (0 + ((i : Nat) : Int).toNat * 1) (.int .i64 (max ((joinTo x y i).get i) (y.get i))) = clkC (joinTo x y (i + 1)) from by simp only [Nat.mul_one, Nat.zero_add]; exact setN_clk _ i hi _))
    refine c_region rfl ?_
    refine s1 (r_add h6 rfl (wi (by omega) (by omega))) ?_
    refine s1 (r_mvi rfl) ?_
    refine wn (t_n ?_)
    exact ⟨kk - 1, by omega, i + 1, by omega, h2, h3, h4, rfl, mm⟩
  have hi : i = 5 := by simp at h; omega
  subst hi
  clear h
  rw [joinTo_join] at mm
  refine c_sreg rfl ?_
  refine s1 (r_lda h2 (mm.b 0 rfl) rfl) ?_
  refine ss (o_sta mm 2 rfl h4 rfl rfl rfl (Nat.le_of_ble_eq_true rfl) fun w7 mm => ?_)
  refine wn ?_
  exact c_ret (retc rfl h4 (mm.b 2 rfl) rfl ⟨rfl, mm.chg⟩)
end Go.Proofs.Ytbcpabfemejlgaa
/- The walk's own small logic, twelfth part: a cell of one's own row, stored. -/
namespace Go.Proofs.Ytbcpabfemejlgaa
namespace K
section
variable {P : Program} {e : Env} {w : World} {d : Option Nat} {ty : Nat} {pos : String} {af : Array Edge} {g : Option (Nat × Bool)} {K : Value → World → Prop}
variable {w0 : World} {F0 : Nat → Prop} {L : List It}
theorem splice_take (cs : List Value) (j m : Nat) (v : Value) (hj : j < m) (hm : m ≤ cs.length) : (splice cs j [v]).take m = setN (cs.take m) j v := by
  rw [setN_eq, ← setN_splice cs j v (by omega), setN_eq, List.take_set]
theorem o_stc {t j T sz n c : Nat} {x y : Operand} {a : Option Addr} {cs : List Value} {v : Value} [h : Sc P t] (m : Mem w0 F0 w L) (k : Nat) (hk : nth L k = some (own T sz a n c cs)) (hx : ev e x = .pointer (a.map (·.add j))) (hy : ev e y = v) (h1 : v.oneCell' = true) (hl : j < n * sz)
    (hK : ∀ w', Mem w0 F0 w' (setN L k (own T sz a n c (setN cs j v))) → K undef w') : OwpE P ⟨d, .store t x y, ty, pos, af, g⟩ e w K := by
  have ho := m.o k hk
  rcases ho.2 with ⟨hv, hn⟩ | ⟨gb, cap, cur, hv, hbg, hg, hnc, hcm, hcs, htake⟩
  · subst hn; simp at hl
  · injection hv with e1 e2 e3
    subst e1; subst e3
    have hsz : n * sz ≤ cur.size := by rw [hcs]; exact Nat.mul_le_mul_right _ hnc
    have hxx : ev e x = .pointer (some ⟨gb, j, none⟩) := by
      rw [hx]
      have : (⟨gb, 0, none⟩ : Addr).add j = ⟨gb, j, none⟩ := by unfold Addr.add; split <;> simp_all
      rw [Option.map_some, this]
    have hg' : w.heap[gb]? = some (.cells cur.toList.toArray T (0, 0)) := by rw [Array.toArray_toList]; exact hg
    have hr := run_store_splice (P := P) (w := w) (vs := [v]) h.s hg' (cells_one h1) rfl (by intro u hu; simp at hu; subst hu; exact h1) (show j + 1 ≤ cur.toList.length by rw [Array.length_toList]; omega)
    unfold OwpE
    simp only [execOp, hxx, hy, Sem.run_bind, hr, Result.andThen_ok, Sem.run_pure]
    refine hK _ (m.turn k hk (Chg.mono chg_setRow (fun b hb => by subst hb; rfl)) ⟨?_, .inr ⟨gb, c, _, rfl, Nat.zero_le _, setRow_heap w gb cur _ T _ hg, hnc, hcm, ?_, ?_⟩⟩ (fun b hb => .inl hb))
    · rw [setN_eq, List.length_set]; exact ho.1
    · rw [List.size_toArray, splice_length _ _ _ (show j + 1 ≤ cur.toList.length by rw [Array.length_toList]; omega), Array.length_toList]; exact hcs
    · rw [← htake]
      exact splice_take _ _ _ _ hl (by simpa using hsz)
end
end K
end Go.Proofs.Ytbcpabfemejlgaa
/- The walk's own small logic: arrays in rows, an aggregate stored into one's own row. -/
namespace Go.Proofs.Ytbcpabfemejlgaa
namespace K
section
variable {P : Program} {e : Env} {w : World} {d : Option Nat} {ty : Nat} {pos : String} {af : Array Edge} {g : Option (Nat × Bool)} {K : Value → World → Prop}
variable {w0 : World} {F0 : Nat → Prop} {L : List It}
theorem r_ixac {t el sz n j by_ : Nat} {x y : Operand} {a : Option Addr} {k : IntKind} {i : Int} {z : List Value} [h : TArr P t n el] [he : El P el sz by_ z] (hx : ev e x = .pointer (a.map (·.add j))) (hy : ev e y = .int k i) (h0 : 0 ≤ i) (h1 : i < n) (ha : a.isSome = true) :
    (execOp (ev e) ⟨d, .indexAddr t x y, ty, pos, af, g⟩).run P w = .ok (.value (.pointer (a.map (·.add (j + i.toNat * sz))))) w := by
  obtain ⟨inf, zv, hi, hs, _⟩ := he.h
  subst hs
  obtain ⟨ad, rfl⟩ := Option.isSome_iff_exists.1 ha
  simp only [Option.map_some] at hx ⊢
  simp only [execOp, hx, hy, Instr.indexAt, asIntOf, run_underlying h.h, sizeOf, typeInfo, hi, Sem.run_bind, Sem.run_pure, Result.andThen_ok, Instr.sureAddr, run_program, h0, h1, and_self, if_true, Addr.add_add]
theorem extract_seg (cs : List Value) (o n : Nat) : cs.toArray.extract o (o + n) = (seg cs o n).toArray := by
  rw [List.extract_toArray]
  congr 1
  unfold seg
  rw [List.extract_eq_take_drop, Nat.add_sub_cancel_left]
theorem r_ixva {t el n sz : Nat} {x y : Operand} {k : IntKind} {i : Int} {cs ds : List Value} [h : TArr P t n el] [hs : Ag P el sz] (hx : ev e x = .agg cs.toArray) (hy : ev e y = .int k i) (h0 : 0 ≤ i) (h1 : i < n) (hv : seg cs (i.toNat * sz) sz = ds) :
    (execOp (ev e) ⟨d, .index t x y, ty, pos, af, g⟩).run P w = .ok (.value (.agg ds.toArray)) w := by
  subst hv
  simp only [execOp, hx, hy, Instr.index, asIntOf, Sem.run_bind, Sem.run_pure, Result.andThen_ok, run_underlying h.h, h0, h1, and_self, if_true, size_run hs.s, part, agg_run, extract_seg]
theorem r_fldg {T f o ft sz : Nat} {x : Operand} {cs ds : List Value} [hF : Fd P T f o ft] [hs : Ag P ft sz] (hx : ev e x = .agg cs.toArray) (hv : seg cs o sz = ds) :
    (execOp (ev e) ⟨d, .field T x f, ty, pos, af, g⟩).run P w = .ok (.value (.agg ds.toArray)) w := by
  subst hv
  obtain ⟨fs, fd, i, hu, hf, ho, ht, hi, hz⟩ := hF.h
  subst ho
  have ha := agg_run (P := P) (t := ft) (n := sz) w
  have hsz := size_run (P := P) hs.s w
  subst ht
  simp only [execOp, hx, Instr.field, asAgg, Sem.run_bind, Sem.run_pure, Result.andThen_ok, run_underlying hu, hf, part, ha, hsz, if_true, extract_seg]
theorem o_stca {t j T sz n c q : Nat} {x y : Operand} {a : Option Addr} {cs vs : List Value} [h : Ag P t q] (m : Mem w0 F0 w L) (k : Nat) (hk : nth L k = some (own T sz a n c cs)) (hx : ev e x = .pointer (a.map (·.add j))) (hy : ev e y = .agg vs.toArray) (h1 : ones vs = true) (hq : vs.length = q) (hp : 0 < q) (hl : j + q ≤ n * sz)
    (hK : ∀ w', Mem w0 F0 w' (setN L k (own T sz a n c (splice cs j vs))) → K undef w') : OwpE P ⟨d, .store t x y, ty, pos, af, g⟩ e w K := by
  have ho := m.o k hk
  rcases ho.2 with ⟨hv, hn⟩ | ⟨gb, cap, cur, hv, hbg, hg, hnc, hcm, hcs, htake⟩
  · subst hn; omega
  · injection hv with e1 e2 e3
    subst e1; subst e3
    have hsz : n * sz ≤ cur.size := by rw [hcs]; exact Nat.mul_le_mul_right _ hnc
    have hxx : ev e x = .pointer (some ⟨gb, j, none⟩) := by
      rw [hx]
      have : (⟨gb, 0, none⟩ : Addr).add j = ⟨gb, j, none⟩ := by unfold Addr.add; split <;> simp_all
      rw [Option.map_some, this]
    have hg' : w.heap[gb]? = some (.cells cur.toList.toArray T (0, 0)) := by rw [Array.toArray_toList]; exact hg
    have hr := run_store_splice (P := P) (w := w) (vs := vs) h.s hg' (show (Value.agg vs.toArray).cells = vs.toArray from rfl) hq (ones_spec h1) (show j + q ≤ cur.toList.length by rw [Array.length_toList]; omega)
    unfold OwpE
    simp only [execOp, hxx, hy, Sem.run_bind, hr, Result.andThen_ok, Sem.run_pure]
    have hjl : j + vs.length ≤ cur.toList.length := by rw [hq, Array.length_toList]; omega
    refine hK _ (m.turn k hk (Chg.mono chg_setRow (fun b hb => by subst hb; rfl)) ⟨?_, .inr ⟨gb, c, _, rfl, Nat.zero_le _, setRow_heap w gb cur _ T _ hg, hnc, hcm, ?_, ?_⟩⟩ (fun b hb => .inl hb))
    · rw [splice_length _ _ _ (by rw [hq, ho.1]; omega)]; exact ho.1
    · rw [List.size_toArray, splice_length _ _ _ hjl, Array.length_toList]; exact hcs
    · rw [← htake]
      exact splice_takeN _ _ _ _ (by rw [hq]; exact hl) hjl
end
end K
end Go.Proofs.Ytbcpabfemejlgaa
