/- Records, plain: which may be, which bytes they are, any made one that may be. -/
import Derived.Test.YtgdbbaggkoillaaM6
import Derived.Test.YtgdbbaggkoillaaM3
import Derived.Test.YtgdbbaggkoillaaM5
import Derived.Test.YtgdbbaggkoillaaM4
namespace Go.Proofs.Ytgdbbaggkoillaa
open K

/-! ### lists of events in memory -/
def evsC (l : List Ev) : List Value := l.flatMap evC
theorem evC_length (x : Ev) : (evC x).length = 12 := rfl
theorem evsC_cons (x : Ev) (l : List Ev) : evsC (x :: l) = evC x ++ evsC l := List.flatMap_cons
theorem evsC_append (l m : List Ev) : evsC (l ++ m) = evsC l ++ evsC m := List.flatMap_append
theorem evsC_length : ∀ l : List Ev, (evsC l).length = l.length * 12
  | [] => rfl
  | x :: l => by rw [evsC_cons, List.length_append, evC_length, evsC_length l, List.length_cons]; omega
theorem seg_evs0 : ∀ (l : List Ev) (i : Nat) (h : i < l.length), seg (evsC l) (i * 12) 12 = evC l[i]
  | x :: l, 0, _ => by rw [evsC_cons]; rfl
  | x :: l, i + 1, h => by
    have h1 : i < l.length := by simpa using h
    have := seg_evs0 l i h1
    rw [evsC_cons]
    unfold seg at this ⊢
    rw [show (i + 1) * 12 = (evC x).length + i * 12 from by rw [evC_length]; omega, List.drop_append, List.drop_of_length_le (Nat.le_add_right _ _), List.nil_append, Nat.add_sub_cancel_left, this]
    rfl
theorem seg_evs (l : List Ev) (i : Nat) (h : i < l.length) : seg (evsC l) (((i : Nat) : Int).toNat * 12) 12 = evC l[i] := seg_evs0 l i h
theorem evs_le (l : List Ev) (i : Nat) (h : i < l.length) : ((i : Nat) : Int).toNat * 12 + 12 ≤ (evsC l).length := by rw [evsC_length]; show i * 12 + 12 ≤ _; omega
theorem evs_some {w : World} {a : Option Addr} {l : List Ev} (H : Cells w a (evsC l)) {i : Nat} (h : i < l.length) : a.isSome = true := by
  cases l with
  | nil => simp at h
  | cons x l => obtain ⟨ad, rfl, _⟩ := H 0 (.int .i64 x.r) (by rw [evsC_cons]; rfl); rfl
theorem evsC_take (l : List Ev) (n : Nat) : (evsC l).take (n * 12) = evsC (l.take n) := by
  induction l generalizing n with
  | nil => simp [evsC]
  | cons x l ih =>
    cases n with
    | zero => simp [evsC]
    | succ n =>
      rw [List.take_succ_cons, evsC_cons, evsC_cons, show (n + 1) * 12 = (evC x).length + n * 12 from by rw [evC_length]; omega, List.take_length_add_append, ih]
theorem ones_evs : ∀ l : List Ev, ones (evsC l) = true
  | [] => rfl
  | x :: l => by rw [evsC_cons]; exact ones_append rfl (ones_evs l)

/-! ### records -/
structure Rec where
  kind : Int
  r : Int
  upto : Int
  c : Clk
  es : List Ev
deriving DecidableEq
def recV (x : Rec) (a : Option Addr) (cap : Nat) : List Value := [.int .i64 x.kind, .int .i64 x.r, .int .i64 x.upto, .int .i64 x.c.c0, .int .i64 x.c.c1, .int .i64 x.c.c2, .int .i64 x.c.c3, .int .i64 x.c.c4, .slice a x.es.length cap]
/-- What a kind names: a number, a clock, events; and whether it is one. -/
def parts (k : Int) : Bool × Bool × Bool × Bool :=
  if k = 1 ∨ k = 2 ∨ k = 5 then (false, false, true, true) else if k = 3 then (true, false, false, true) else if k = 4 then (true, false, true, true) else if k = 6 then (false, true, false, true) else (false, false, false, false)
def recMay (x : Rec) : Bool :=
  (parts x.kind).2.2.2 && decide (0 ≤ x.r) && decide (x.r < 5) && inEv x.upto && ((parts x.kind).1 || decide (x.upto = 0)) && ((parts x.kind).2.1 || decide (x.c = clk0)) && ((parts x.kind).2.2.1 || decide (x.es.length = 0)) &&
  (decide (x.kind ≠ 1) || decide (x.es.length = 1)) && decide (x.es.length ≤ 4096) && x.c.all inEv && x.es.all (fun y => decide (evMay y = 0))
def clkB (c : Clk) (i : Nat) : List UInt8 := (List.range i).flatMap fun i : Nat => vput (c.get i).toNat
def evsB (l : List Ev) : List UInt8 := l.flatMap putE
def bodyR (x : Rec) : List UInt8 :=
  [UInt8.ofNat x.kind.toNat, UInt8.ofNat x.r.toNat] ++ (if (parts x.kind).1 then vput x.upto.toNat else []) ++ (if (parts x.kind).2.1 then clkB x.c 5 else []) ++ (if (parts x.kind).2.2.1 then vput x.es.length ++ evsB x.es else [])
def putR (x : Rec) : List UInt8 := vput (sealL (bodyR x)).length ++ sealL (bodyR x)
def recPut (x : Rec) : List UInt8 := if recMay x then putR x else []
theorem putR_len (x : Rec) : 7 ≤ (putR x).length := by
  have h1 := vput_pos (sealL (bodyR x)).length
  have h2 : 2 ≤ (bodyR x).length := by unfold bodyR; simp only [List.length_append, List.length_cons, List.length_nil]; omega
  unfold putR
  rw [List.length_append]
  have h3 := sealL_length (bodyR x)
  omega

structure RecOk (x : Rec) : Prop where
  is : (parts x.kind).2.2.2 = true
  r0 : 0 ≤ x.r
  r5 : x.r < 5
  u0 : 0 ≤ x.upto
  u1 : x.upto ≤ 1048576
  pu : (parts x.kind).1 = true ∨ x.upto = 0
  pc : (parts x.kind).2.1 = true ∨ x.c = clk0
  pe : (parts x.kind).2.2.1 = true ∨ x.es = []
  one : x.kind ≠ 1 ∨ x.es.length = 1
  most : x.es.length ≤ 4096
  c : ∀ i, i < 5 → 0 ≤ x.c.get i ∧ x.c.get i ≤ 1048576
  es : ∀ y ∈ x.es, evMay y = 0
theorem recMay_ok {x : Rec} (h : recMay x = true) : RecOk x := by
  simp only [recMay, Bool.and_eq_true, Bool.or_eq_true, decide_eq_true_eq] at h
  obtain ⟨⟨⟨⟨⟨⟨⟨⟨⟨⟨h1, h2⟩, h3⟩, h4⟩, h5⟩, h6⟩, h7⟩, h8⟩, h9⟩, h10⟩, h11⟩ := h
  simp only [inEv, Bool.and_eq_true, decide_eq_true_eq] at h4
  refine ⟨h1, h2, h3, h4.1, h4.2, h5, h6, h7.imp id List.eq_nil_of_length_eq_zero, h8, h9, fun i hi => ?_, fun y hy => ?_⟩
  · have := (Clk.all_iff _ _).1 h10 i hi
    simpa [inEv] using this
  · simpa using List.all_eq_true.1 h11 y hy
theorem recMay_of {x : Rec} (h : RecOk x) : recMay x = true := by
  simp only [recMay, Bool.and_eq_true, Bool.or_eq_true, decide_eq_true_eq]
  refine ⟨⟨⟨⟨⟨⟨⟨⟨⟨⟨h.is, h.r0⟩, h.r5⟩, ?_⟩, h.pu⟩, h.pc⟩, h.pe.imp id (fun e => by rw [e]; rfl)⟩, h.one⟩, h.most⟩, ?_⟩, ?_⟩
  · simp only [inEv, Bool.and_eq_true, decide_eq_true_eq]; exact ⟨h.u0, h.u1⟩
  · rw [Clk.all_iff]; intro i hi; have := h.c i hi; simpa [inEv] using this
  · rw [List.all_eq_true]; intro y hy; simpa using h.es y hy
/-- The code's first question, its second one. -/
def mayA (x : Rec) : Bool := (!(parts x.kind).2.2.2 || decide (x.r < 0) || decide (5 ≤ x.r) || !inEv x.upto || !(parts x.kind).1 && decide (x.upto ≠ 0) || !(parts x.kind).2.1 && !decide (x.c = clk0) || !(parts x.kind).2.2.1 && decide (0 < ((x.es.length : Nat) : Int)))
def mayB (x : Rec) : Bool := (decide (x.kind = 1) && decide (((x.es.length : Nat) : Int) ≠ 1) || decide (4096 < ((x.es.length : Nat) : Int)))
theorem recMay_abc (x : Rec) : recMay x = (!mayA x && !mayB x && x.c.all inEv && x.es.all (fun y => decide (evMay y = 0))) := by
  have e1 : decide (0 ≤ x.r) = !decide (x.r < 0) := by rw [← decide_not]; exact decide_eq_decide.2 (by omega)
  have e2 : decide (x.r < 5) = !decide (5 ≤ x.r) := by rw [← decide_not]; exact decide_eq_decide.2 (by omega)
  have e3 : decide (x.upto = 0) = !decide (x.upto ≠ 0) := by rw [← decide_not]; exact decide_eq_decide.2 (by omega)
  have e4 : decide (x.es.length = 0) = !decide (0 < ((x.es.length : Nat) : Int)) := by rw [← decide_not]; exact decide_eq_decide.2 (by omega)
  have e5 : decide (x.kind ≠ 1) = !decide (x.kind = 1) := by rw [← decide_not]
  have e6 : decide (x.es.length = 1) = !decide (((x.es.length : Nat) : Int) ≠ 1) := by rw [← decide_not]; exact decide_eq_decide.2 (by omega)
  have e7 : decide (x.es.length ≤ 4096) = !decide (4096 < ((x.es.length : Nat) : Int)) := by rw [← decide_not]; exact decide_eq_decide.2 (by omega)
  unfold recMay mayA mayB
  rw [e1, e2, e3, e4, e5, e6, e7]
  generalize (parts x.kind).2.2.2 = b1
  generalize (parts x.kind).1 = b2
  generalize (parts x.kind).2.1 = b3
  generalize (parts x.kind).2.2.1 = b4
  generalize decide (x.r < 0) = b5
  generalize decide (5 ≤ x.r) = b6
  generalize inEv x.upto = b7
  generalize decide (x.upto ≠ 0) = b8
  generalize decide (x.c = clk0) = b9
  generalize decide (0 < ((x.es.length : Nat) : Int)) = b10
  generalize decide (x.kind = 1) = b11
  generalize decide (((x.es.length : Nat) : Int) ≠ 1) = b12
  generalize decide (4096 < ((x.es.length : Nat) : Int)) = b13
  simp only [Bool.not_or, Bool.not_and, Bool.not_not, Bool.and_assoc]
theorem parts_in {k : Int} (h : (parts k).2.2.2 = true) : 1 ≤ k ∧ k ≤ 6 := by
  unfold parts at h
  split at h
  · omega
  · split at h
    · omega
    · split at h
      · omega
      · split at h
        · omega
        · cases h

/-! ### made ones -/
def fit6R (n : Int) : Int := 1 + ((n.tmod 6) + 6).tmod 6
theorem fit6R_in (n : Int) : 1 ≤ fit6R n ∧ fit6R n ≤ 6 := by
  unfold fit6R
  have h := tmod_in n 6 (by decide)
  have h1 := Int.tmod_nonneg 6 (show (0 : Int) ≤ n.tmod 6 + 6 by omega)
  have h2 := Int.tmod_lt_of_pos (n.tmod 6 + 6) (show (0 : Int) < 6 by decide)
  omega
def fitEs (l : List Ev) : List Ev := (l.take 30).map fitEv
def fitRec (x : Rec) : Rec :=
  let k := fit6R x.kind
  if k = 6 then ⟨6, fitR x.r, 0, fitC x.c, []⟩
  else if k = 3 then ⟨3, fitR x.r, m20 x.upto, clk0, []⟩
  else ⟨if k = 1 ∧ (fitEs x.es).length ≠ 1 then 2 else k, fitR x.r, if k = 4 then m20 x.upto else 0, clk0, fitEs x.es⟩
theorem clk0_in (i : Nat) : clk0.get i = 0 := by unfold Clk.get clk0; split <;> rfl
theorem fitEs_len (l : List Ev) : (fitEs l).length ≤ 30 := by rw [fitEs, List.length_map, List.length_take]; omega
theorem fitEs_ok (l : List Ev) : ∀ y ∈ fitEs l, evMay y = 0 := by
  intro y hy
  obtain ⟨x, _, rfl⟩ := List.mem_map.1 hy
  exact fitEv_ok x
theorem fitRec_ok (x : Rec) : RecOk (fitRec x) := by
  have hr := fitR_in x.r
  have hu := m20_in x.upto
  have hk := fit6R_in x.kind
  have hl := fitEs_len x.es
  unfold fitRec
  generalize fit6R x.kind = k at *
  simp only
  split
  · refine ⟨rfl, hr.1, hr.2, Int.le_refl 0, (by decide : (0 : Int) ≤ 1048576), .inr rfl, .inl rfl, .inr rfl, .inl (by decide : (6 : Int) ≠ 1), (by decide : 0 ≤ 4096), fun i hi => ?_, fun y hy => by cases hy⟩
    show 0 ≤ (fitC x.c).get i ∧ (fitC x.c).get i ≤ 1048576
    rw [fitC_get]
    have := m20_in (x.c.get i)
    omega
  · split
    · refine ⟨rfl, hr.1, hr.2, hu.1, ?_, .inl rfl, .inr rfl, .inr rfl, .inl (by show (3 : Int) ≠ 1; decide), by simp, fun i hi => ?_, fun y hy => by cases hy⟩
      · show m20 x.upto ≤ 1048576; omega
      · show 0 ≤ clk0.get i ∧ clk0.get i ≤ 1048576
        rw [clk0_in]; omega
    · rename_i h6 h3
      have hkk : ∀ k', k' = (if k = 1 ∧ (fitEs x.es).length ≠ 1 then 2 else k) → k' = 1 ∨ k' = 2 ∨ k' = 4 ∨ k' = 5 := by
        intro k' h
        split at h <;> omega
      have h1 : (if k = 1 ∧ (fitEs x.es).length ≠ 1 then 2 else k) ≠ 1 ∨ (fitEs x.es).length = 1 := by
        by_cases hq : (fitEs x.es).length = 1
        · exact .inr hq
        · left
          split <;> omega
      have h4 : k ≠ 4 ∨ (if k = 1 ∧ (fitEs x.es).length ≠ 1 then 2 else k) = 4 := by
        by_cases hq : k = 4
        · right; rw [if_neg (by omega)]; exact hq
        · exact .inl hq
      generalize hk' : (if k = 1 ∧ (fitEs x.es).length ≠ 1 then (2 : Int) else k) = k' at *
      have hk2 := hkk k' rfl
      have hp : (parts k').2.2.2 = true ∧ (parts k').2.2.1 = true ∧ (k' = 4 → (parts k').1 = true) := by
        rcases hk2 with rfl | rfl | rfl | rfl <;> decide
      refine ⟨hp.1, hr.1, hr.2, ?_, ?_, ?_, .inr rfl, .inl hp.2.1, h1, by show (fitEs x.es).length ≤ 4096; omega, fun i hi => ?_, fitEs_ok x.es⟩
      · show 0 ≤ (if k = 4 then m20 x.upto else 0); split <;> omega
      · show (if k = 4 then m20 x.upto else 0) ≤ 1048576; split <;> omega
      · show (parts k').1 = true ∨ (if k = 4 then m20 x.upto else 0) = 0
        rcases h4 with h4 | h4
        · right; exact if_neg h4
        · exact .inl (hp.2.2 h4)
      · show 0 ≤ clk0.get i ∧ clk0.get i ≤ 1048576
        rw [clk0_in]; omega
end Go.Proofs.Ytgdbbaggkoillaa
/- kithref05.Fit, kithref06.edit, kithref06.Fit, kithlaw06.long, kithlaw06.shown: walks. -/
namespace Go.Proofs.Ytgdbbaggkoillaa
open K
set_option maxRecDepth 100000

theorem c_long (n : Nat) (hn : n ≤ 9223372036854775807) (w : World) : Cl Try.prog 21 #[.int .i64 n] w (fun v w' => v = .int .i64 (vput n).length ∧ Chg No w w') := by
  have hl := vput_len10 n (by omega)
  refine f_enter (args := [_]) Try.func21 rfl rfl ?_
  have mm := Mem.nil No w
  refine c_sreg rfl ?_
  refine s1 (r_asi rfl) ?_
  refine wn ?_
  refine c_sreg rfl ?_
  refine s1 (r_asi rfl) ?_
  refine wn ?_
  refine c_seq ?_
  refine c_block ?_
  refine c_loop (fun k e w' => ∃ (x j : Nat), k = x ∧ e 0 = .int .i64 x ∧ e 3 = .int .i64 j ∧ Mem w No w' [] ∧ j + (vput x).length = (vput n).length + 1 ∧ x ≤ n ∧ 1 ≤ j) n ?_ ?_
  · exact ⟨n, 1, rfl, rfl, rfl, mm, by omega, Nat.le_refl _, Nat.le_refl _⟩
  rintro k e w' ⟨x, j, rfl, h0, h3, mm, hj, hx, hj1⟩
  have hp := vput_pos k
  refine c_seq ?_
  refine c_sreg rfl ?_
  refine s1 (r_mvi h0) ?_
  refine s1 (r_ge rfl rfl) ?_
  refine wn ?_
  refine c_cond rfl (fun h => (c_skip (t_n ?_))) (fun h => (c_exit (t_x (t_x (b_x (t_n ?_))))))
  · have hk : 128 ≤ k := by simp at h; omega
    have hs : vput k = UInt8.ofNat (k % 128 + 128) :: vput (k / 128) := by rw [vput, if_neg (by omega)]
    have hq : ((k : Int).tdiv 128) = ((k / 128 : Nat) : Int) := by rw [Int.tdiv_eq_ediv_of_nonneg (by omega)]; rfl
    refine c_block ?_
    refine c_sreg rfl ?_
    refine s1 (r_mvi h0) ?_
    refine s1 (r_quo rfl rfl (by decide) (show IntKind.i64.wrap ((k : Int).tdiv 128) = ((k / 128 : Nat) : Int) from by rw [hq]; exact wi (by omega) (by omega))) ?_
    refine s1 (r_asi rfl) ?_
    refine wn ?_
    refine c_region rfl ?_
    refine s1 (r_mvi h3) ?_
    refine s1 (r_add rfl rfl (wi (by omega) (by omega))) ?_
    refine s1 (r_asi rfl) ?_
    refine wn (b_n (t_n ?_))
    refine ⟨k / 128, by omega, k / 128, j + 1, rfl, rfl, rfl, mm, ?_, by omega, by omega⟩
    rw [hs, List.length_cons] at hj
    omega
  · have hk : k < 128 := by simp at h; omega
    have hs : vput k = [UInt8.ofNat k] := by rw [vput, if_pos hk]
    rw [hs, List.length_singleton] at hj
    refine c_sreg rfl ?_
    refine s1 (r_mvi h3) ?_
    refine s1 (r_asi rfl) ?_
    refine wn ?_
    refine c_ret (ret1 rfl rfl ⟨?_, mm.chg⟩)
    rw [show j = (vput n).length from by omega]; rfl

theorem c_ePut0 (x : Ev) (hx : evMay x = 0) (bs : List UInt8) (hb : putE x = bs) (w : World) : Cl Try.prog 20 #[.agg (evC x).toArray] w (fun v w' => ∃ a c, v = .tuple #[.slice a bs.length c, .int .i64 0] ∧ Chg No w w' ∧ New w w' (own 5 1 a bs.length c (u8s bs))) := by
  have h := c_ePut x w
  rw [if_pos hx, hx, hb] at h
  exact h
theorem putE_first : putE ⟨1, 1, clk0, 1, 1, [99, 121], 0, []⟩ = [1, 1, 1, 0, 0, 0, 0, 1, 2, 99, 121] := by
  have h0 : vput 0 = [0] := by rw [vput]; rfl
  have h1 : vput 1 = [1] := by rw [vput]; rfl
  simp [putE, List.range, List.range.loop, clk0, Clk.get, h0, h1]

theorem c_shown6 (w : World) : Cl Try.prog 18 #[] w (fun v w' => v = .bool true ∧ Chg No w w') := by
  refine f_enter (args := []) Try.func18 rfl rfl ?_
  have mm := Mem.nil No w
  refine c_sreg rfl ?_
  refine s1 (r_asb rfl) ?_
  refine wn ?_
  refine c_sreg rfl ?_
  refine s1 (r_bd (bi rfl (bi rfl (bi rfl (bi rfl (bt rfl bN))))) rfl) ?_
  refine so (o_c1 rfl (c_ePut0 ⟨1, 1, clk0, 1, 1, [99, 121], 0, []⟩ (by decide) _ putE_first _) ?_)
  rintro _ w2 ⟨a2, c2, rfl, hc, hn⟩
  have mm := mm.new hc hn
  refine s1 (r_mvu rfl) ?_
  refine s1 (r_exts rfl rfl) ?_
  refine s1 (r_exti rfl rfl) ?_
  refine s1 (r_ass rfl) ?_
  refine s1 (r_asi rfl) ?_
  refine wn ?_
  refine c_sreg rfl ?_
  refine s1 (r_mvs rfl) ?_
  refine s1 (r_b2s rfl (mm.c 0 rfl) rfl) ?_
  refine s1 (r_seq rfl rfl) ?_
  refine s1 (r_mvb rfl) ?_
  refine sT rfl rfl (fun h => r_mvi rfl) ?_
  refine sT rfl rfl (fun h => r_eq (sel_t h :) rfl) ?_
  refine s1 (r_and rfl rfl) ?_
  refine s1 (r_asb rfl) ?_
  refine wn ?_
  exact c_ret (ret1 rfl rfl ⟨rfl, mm.chg⟩)

theorem c_edit6 (x : Ev) (w : World) : Cl Try.prog 44 #[.agg (evC x).toArray] w (fun v w' => v = .agg (edC x.ed).toArray ∧ Chg No w w') := by
  refine f_enter (args := [_]) Try.func44 rfl rfl ?_
  have mm := Mem.nil No w
  refine c_sreg rfl ?_
  refine so (o_bxa mm rfl fun b2 w2 mm => ?_)
  refine so (o_al mm fun b3 w3 mm => ?_)
  refine wn ?_
  refine c_sreg rfl ?_
  refine s1 (r_fa rfl) ?_
  refine s1 (r_ld rfl (mm.b 0 rfl) rfl) ?_
  refine s1 (r_fa rfl) ?_
  refine s1 (r_ld rfl (mm.b 0 rfl) rfl) ?_
  refine s1 (r_fa rfl) ?_
  refine s1 (r_ld rfl (mm.b 0 rfl) rfl) ?_
  refine s1 (r_fa rfl) ?_
  refine s1 (r_ld rfl (mm.b 0 rfl) rfl) ?_
  refine s1 (r_bd (bi rfl (bt rfl (bi rfl (bt rfl bN)))) rfl) ?_
  refine ss (o_sta mm 1 rfl rfl rfl rfl rfl (Nat.le_of_ble_eq_true rfl) fun w4 mm => ?_)
  refine wn ?_
  exact c_ret (retc rfl rfl (mm.b 1 rfl) rfl ⟨rfl, mm.chg⟩)
theorem kv3 (n : Nat) (h : n < 3) : nth [str [97, 110, 110], str [98, 111, 98], str [99, 121]] (0 + (n : Int).toNat * 1) = some (str (keys3.getD n [])) := by
  match n, h with
  | 0, _ => rfl | 1, _ => rfl | 2, _ => rfl
theorem kv4 (n : Nat) (h : n < 4) : nth [str [49], str [116, 119, 111], str [0, 255], str [116, 119, 101, 108, 118, 101, 32, 98, 121, 116, 101, 115]] (0 + (n : Int).toNat * 1) = some (str (vals4.getD n [])) := by
  match n, h with
  | 0, _ => rfl | 1, _ => rfl | 2, _ => rfl | 3, _ => rfl

theorem c_fit5 (x : Ed) (hk : x.key.length < 2 ^ 47) (hv : x.val.length < 2 ^ 47) (w : World) : Cl Try.prog 43 #[.agg (edC x).toArray] w (fun v w' => v = .agg (edC (fitEd x)).toArray ∧ Chg No w w') := by
  have hs1 := bsum_le x.key
  have hs2 := bsum_le x.val
  refine f_enter (args := [_]) Try.func43 rfl rfl ?_
  have mm := Mem.nil No w
  refine c_sreg rfl ?_
  refine so (o_bxa mm rfl fun b2 w2 mm => ?_)
  refine so (o_al mm fun b3 w3 mm => ?_)
  refine wn ?_
  refine c_sreg rfl ?_
  refine s1 (r_bd (bt rfl (bt rfl (bt rfl bN))) rfl) ?_
  refine so (o_al mm fun b4 w4 mm => ?_)
  refine ss (o_sta mm 2 rfl rfl rfl rfl rfl (Nat.le_of_ble_eq_true rfl) fun w5 mm => ?_)
  refine wn ?_
  refine c_sreg rfl ?_
  refine s1 (r_bd (bt rfl (bt rfl (bt rfl (bt rfl bN)))) rfl) ?_
  refine so (o_al mm fun b6 w6 mm => ?_)
  refine ss (o_sta mm 3 rfl rfl rfl rfl rfl (Nat.le_of_ble_eq_true rfl) fun w7 mm => ?_)
  refine wn ?_
  refine c_sreg rfl ?_
  refine s1 (r_asi rfl) ?_
  refine wn ?_
  refine c_seq ?_
  refine c_sreg rfl ?_
  refine s1 (r_asi rfl) ?_
  refine wn ?_
  have mm : Mem w No w7 [bk b2 (edC x) 73, bk b3 (edC ⟨0, [], 0, []⟩) 73, bk b4 [str [97, 110, 110], str [98, 111, 98], str [99, 121]] 103, bk b6 [str [49], str [116, 119, 111], str [0, 255], str [116, 119, 101, 108, 118, 101, 32, 98, 121, 116, 101, 115]] 104] := mm
  refine c_block ?_
  refine c_loop (fun k e w' => ∃ (i : Nat), k + i = x.key.length ∧ e 1 = .pointer (some ⟨b2, 0, none⟩) ∧ e 2 = .pointer (some ⟨b3, 0, none⟩) ∧ e 3 = .pointer (some ⟨b4, 0, none⟩) ∧ e 4 = .pointer (some ⟨b6, 0, none⟩) ∧ e 5 = .int .i64 (bsum (x.key.take i)) ∧ e 6 = .int .i64 i ∧ Mem w No w' [bk b2 (edC x) 73, bk b3 (edC ⟨0, [], 0, []⟩) 73, bk b4 [str [97, 110, 110], str [98, 111, 98], str [99, 121]] 103, bk b6 [str [49], str [116, 119, 111], str [0, 255], str [116, 119, 101, 108, 118, 101, 32, 98, 121, 116, 101, 115]] 104]) x.key.length ?_ ?_
  · exact ⟨0, rfl, rfl, rfl, rfl, rfl, rfl, rfl, mm⟩
  rintro k e w' ⟨i, hki, h1, h2, h3, h4, h5, h6, mm⟩
  have hb := bsum_take_le x.key i
  refine c_seq ?_
  refine c_sreg rfl ?_
  refine s1 (r_mvi h6) ?_
  refine s1 (r_fa h1) ?_
  refine s1 (r_ld rfl (mm.b 0 rfl) rfl) ?_
  refine s1 (r_slen rfl) ?_
  refine s1 (r_lt rfl rfl) ?_
  refine wn ?_
  refine c_cond rfl (fun h => (c_skip (t_n ?_))) (fun h => (c_exit (t_x (t_x (b_x (t_n ?_))))))
  · have hi : i < x.key.length := by simp at h; omega
    have ht : bsum (x.key.take (i + 1)) = bsum (x.key.take i) + (x.key.getD (i : Int).toNat 0).toNat := bsum_take x.key i hi
    have hb2 := bsum_take_le x.key (i + 1)
    refine c_seq ?_
    refine c_block ?_
    refine c_region rfl ?_
    refine s1 (r_mvi h5) ?_
    refine s1 (r_fa h1) ?_
    refine s1 (r_ld rfl (mm.b 0 rfl) rfl) ?_
    refine s1 (r_mvi h6) ?_
    refine s1 (r_ixs rfl rfl (by omega) (by omega)) ?_
    refine s1 (r_cv rfl (wu8i _)) ?_
    refine s1 (r_add rfl rfl (show IntKind.i64.wrap _ = ((bsum (x.key.take (i + 1)) : Nat) : Int) from by rw [ht]; exact wi (by omega) (by omega))) ?_
    refine s1 (r_asi rfl) ?_
    refine wn (b_n (t_n ?_))
    refine c_region rfl ?_
    refine s1 (r_mvi h6) ?_
    refine s1 (r_add rfl rfl (wi (by omega) (by omega))) ?_
    refine s1 (r_asi rfl) ?_
    refine wn (t_n ?_)
    exact ⟨k - 1, by omega, i + 1, by omega, h1, h2, h3, h4, rfl, rfl, mm⟩
  have hi : i = x.key.length := by simp at h; omega
  rw [hi, List.take_length] at h5
  clear h6 h
  refine c_sreg rfl ?_
  refine s1 (r_asi rfl) ?_
  refine wn ?_
  refine c_seq ?_
  refine c_sreg rfl ?_
  refine s1 (r_asi rfl) ?_
  refine wn ?_
  refine c_block ?_
  refine c_loop (fun k e w' => ∃ (i : Nat), k + i = x.val.length ∧ e 1 = .pointer (some ⟨b2, 0, none⟩) ∧ e 2 = .pointer (some ⟨b3, 0, none⟩) ∧ e 3 = .pointer (some ⟨b4, 0, none⟩) ∧ e 4 = .pointer (some ⟨b6, 0, none⟩) ∧ e 5 = .int .i64 (bsum x.key) ∧ e 7 = .int .i64 (bsum (x.val.take i)) ∧ e 8 = .int .i64 i ∧ Mem w No w' [bk b2 (edC x) 73, bk b3 (edC ⟨0, [], 0, []⟩) 73, bk b4 [str [97, 110, 110], str [98, 111, 98], str [99, 121]] 103, bk b6 [str [49], str [116, 119, 111], str [0, 255], str [116, 119, 101, 108, 118, 101, 32, 98, 121, 116, 101, 115]] 104]) x.val.length ?_ ?_
  · exact ⟨0, rfl, h1, h2, h3, h4, h5, rfl, rfl, mm⟩
  clear h1 h2 h3 h4 h5 hb mm
  rintro k e w' ⟨i, hki, h1, h2, h3, h4, h5, h7, h8, mm⟩
  have hb := bsum_take_le x.val i
  refine c_seq ?_
  refine c_sreg rfl ?_
  refine s1 (r_mvi h8) ?_
  refine s1 (r_fa h1) ?_
  refine s1 (r_ld rfl (mm.b 0 rfl) rfl) ?_
  refine s1 (r_slen rfl) ?_
  refine s1 (r_lt rfl rfl) ?_
  refine wn ?_
  refine c_cond rfl (fun h => (c_skip (t_n ?_))) (fun h => (c_exit (t_x (t_x (b_x (t_n ?_))))))
  · have hi : i < x.val.length := by simp at h; omega
    have ht : bsum (x.val.take (i + 1)) = bsum (x.val.take i) + (x.val.getD (i : Int).toNat 0).toNat := bsum_take x.val i hi
    have hb2 := bsum_take_le x.val (i + 1)
    refine c_seq ?_
    refine c_block ?_
    refine c_region rfl ?_
    refine s1 (r_mvi h7) ?_
    refine s1 (r_fa h1) ?_
    refine s1 (r_ld rfl (mm.b 0 rfl) rfl) ?_
    refine s1 (r_mvi h8) ?_
    refine s1 (r_ixs rfl rfl (by omega) (by omega)) ?_
    refine s1 (r_cv rfl (wu8i _)) ?_
    refine s1 (r_add rfl rfl (show IntKind.i64.wrap _ = ((bsum (x.val.take (i + 1)) : Nat) : Int) from by rw [ht]; exact wi (by omega) (by omega))) ?_
    refine s1 (r_asi rfl) ?_
    refine wn (b_n (t_n ?_))
    refine c_region rfl ?_
    refine s1 (r_mvi h8) ?_
    refine s1 (r_add rfl rfl (wi (by omega) (by omega))) ?_
    refine s1 (r_asi rfl) ?_
    refine wn (t_n ?_)
    exact ⟨k - 1, by omega, i + 1, by omega, h1, h2, h3, h4, h5, rfl, rfl, mm⟩
  have hi : i = x.val.length := by simp at h; omega
  rw [hi, List.take_length] at h7
  clear h8 h
  have hq := tmod_in x.kind 5 (by decide)
  have hr := fitR_in x.kind
  unfold fitR at hr
  refine c_sdraw mixed [(0, true), (1, true), (2, true), (3, true), (4, true), (5, true), (6, true), (7, true), (8, true), (9, true), (10, true), (11, false), (12, false)] [true, true, true, true, true, true, true, true, true, true, true, true, false] (Sof mm) (by kernel_rfl) rfl rfl (by kernel_rfl) (fun w8 hc => ?_)
  have mm := mm.frame hc
  refine p1 rfl (fun w m => r_fa h1) mm ?_
  refine p1 rfl (fun w m => r_ld rfl (m.b 0 rfl) rfl) mm ?_
  refine p1 rfl (fun w m => r_rem rfl rfl (by decide) rfl) mm ?_
  refine p1 rfl (fun w m => r_add rfl rfl (wi (by omega) (by omega))) mm ?_
  refine p1 rfl (fun w m => r_rem rfl rfl (by decide) rfl) mm ?_
  refine p1 rfl (fun w m => r_add rfl rfl (wi (by omega) (by omega))) mm ?_
  refine p1 rfl (fun w m => r_mvi h5) mm ?_
  refine p1 rfl (fun w m => r_rem rfl rfl (by decide) (show (bsum x.key : Int).tmod 3 = ((bsum x.key % 3 : Nat) : Int) from rfl)) mm ?_
  refine p1 rfl (fun w m => r_ixa h3 rfl (by omega) (by omega)) mm ?_
  refine p1 rfl (fun w m => r_ld rfl (m.b 2 rfl) (kv3 _ (Nat.mod_lt _ (by decide)))) mm ?_
  refine p1 rfl (fun w m => r_bd (bi rfl (bt rfl bN)) rfl) mm ?_
  refine po rfl (o_al mm fun b9 w9 mm => ⟨fun _ => mm.sub [0, 1, 2, 3] _ (by decide) rfl, ?_⟩)
  refine ps rfl (o_sta mm 4 rfl rfl rfl rfl rfl (Nat.le_of_ble_eq_true rfl) fun w10 mm => ⟨fun h => absurd rfl h, ?_⟩)
  refine pn ?_
  have mm : Mem w No w10 [bk b2 (edC x) 73, bk b3 (edC ⟨0, [], 0, []⟩) 73, bk b4 [str [97, 110, 110], str [98, 111, 98], str [99, 121]] 103, bk b6 [str [49], str [116, 119, 111], str [0, 255], str [116, 119, 101, 108, 118, 101, 32, 98, 121, 116, 101, 115]] 104, bk b9 (edC ⟨fitK x.kind, keys3.getD (bsum x.key % 3) [], 0, []⟩) 73] := mm
  refine c_seq ?_
  refine c_sreg rfl ?_
  refine s1 (r_fa rfl) ?_
  refine s1 (r_ld rfl (mm.b 4 rfl) rfl) ?_
  refine s1 (r_gt rfl rfl) ?_
  refine wn ?_
  refine c_cond rfl (fun h => ?_) (fun h => (c_skip (t_n ?_)))
  · have hz : 2 < fitK x.kind := by simpa using h
    refine c_sreg rfl ?_
    refine s1 (r_fa h1) ?_
    refine s1 (r_ld rfl (mm.b 0 rfl) rfl) ?_
    refine s1 (r_band rfl rfl rfl) ?_
    refine s1 (r_fa rfl) ?_
    refine ss (o_st mm 4 rfl rfl rfl rfl rfl fun w11 mm => ?_)
    refine wn ?_
    refine c_region rfl ?_
    refine s1 (r_mvi h7) ?_
    refine s1 (r_rem rfl rfl (by decide) (show (bsum x.val : Int).tmod 4 = ((bsum x.val % 4 : Nat) : Int) from rfl)) ?_
    refine s1 (r_ixa h4 rfl (by omega) (by omega)) ?_
    refine s1 (r_ld rfl (mm.b 3 rfl) (kv4 _ (Nat.mod_lt _ (by decide)))) ?_
    refine s1 (r_fa rfl) ?_
    refine ss (o_st mm 4 rfl rfl rfl rfl rfl fun w12 mm => ?_)
    refine wn (t_n ?_)
    refine c_sreg rfl ?_
    refine s1 (r_lda rfl (mm.b 4 rfl) rfl) ?_
    refine ss (o_sta mm 1 rfl h2 rfl rfl rfl (Nat.le_of_ble_eq_true rfl) fun w13 mm => ?_)
    refine wn ?_
    refine c_ret (retc rfl h2 (mm.b 1 rfl) rfl ⟨?_, mm.chg⟩)
    unfold fitEd
    rw [if_pos hz, if_pos hz]
    rfl
  · have hz : ¬ 2 < fitK x.kind := by simpa using h
    refine c_sreg rfl ?_
    refine s1 (r_lda rfl (mm.b 4 rfl) rfl) ?_
    refine ss (o_sta mm 1 rfl h2 rfl rfl rfl (Nat.le_of_ble_eq_true rfl) fun w14 mm => ?_)
    refine wn ?_
    refine c_ret (retc rfl h2 (mm.b 1 rfl) rfl ⟨?_, mm.chg⟩)
    unfold fitEd
    rw [if_neg hz, if_neg hz]
    rfl
end Go.Proofs.Ytgdbbaggkoillaa
/- The walk's own small logic, ninth part: slices built of structs. -/
namespace Go.Proofs.Ytgdbbaggkoillaa
namespace K
/-! slices built of structs -/
def zrep (z : List Value) : Nat → List Value
  | 0 => []
  | n + 1 => z ++ zrep z n
theorem zrep_length (z : List Value) : ∀ n, (zrep z n).length = n * z.length
  | 0 => by simp [zrep]
  | n + 1 => by rw [zrep, List.length_append, zrep_length z n, Nat.add_mul]; omega
theorem zrep_get (z : List Value) : ∀ n i, i < n * z.length → (zrep z n)[i]? = z[i % z.length]?
  | 0, i, h => by simp at h
  | n + 1, i, h => by
    rw [zrep]
    by_cases hi : i < z.length
    · rw [List.getElem?_append_left hi, Nat.mod_eq_of_lt hi]
    · rw [List.getElem?_append_right (by omega), zrep_get z n (i - z.length) (by rw [Nat.add_mul] at h; omega)]
      congr 1
      rw [← Nat.mod_eq_sub_mod (by omega)]
theorem zrep_eq (z : List Value) (n : Nat) : (Array.range (n * z.length)).map (fun i => z.toArray[i % z.toArray.size]!) = (zrep z n).toArray := by
  apply Array.ext'
  apply List.ext_getElem?
  intro i
  by_cases hi : i < n * z.length
  · have hz : 0 < z.length := by
      rcases Nat.eq_zero_or_pos z.length with h0 | h0
      · rw [h0] at hi; simp at hi
      · exact h0
    have hm : i % z.length < z.length := Nat.mod_lt _ hz
    have h1 := zrep_get z n i hi
    simp [Array.toList_map, Array.toList_range, hi, h1, hm]
  · have h1 : (zrep z n).length ≤ i := by rw [zrep_length]; omega
    simp [Array.toList_map, Array.toList_range, hi, List.getElem?_eq_none h1]
section
variable {P : Program} {e : Env} {w : World} {d : Option Nat} {ty : Nat} {pos : String} {af : Array Edge} {g : Option (Nat × Bool)} {K : Value → World → Prop}
variable {w0 : World} {F0 : Nat → Prop} {L : List It}
theorem o_bg {t el sz by_ n : Nat} {parts : Array (Nat × Operand)} {vs : List (Nat × Value)} {cs z : List Value} [ht : TSl P t el] [he : El P el sz by_ z] (m : Mem w0 F0 w L) (hv' : BdV e parts.toList vs) (hf : fillL (fun i => some (i * sz, sz)) (zrep z n) vs = some cs) (hl : cs.length = n * sz) (hn : 0 < n) (hb : n * sz ≤ 16777216) (hm : n ≤ maxLen)
    (hK : ∀ a c w', Mem w0 F0 w' (L ++ [own el sz a n c cs]) → K (.slice a n c) w') : OwpE P ⟨d, .buildSlice t n parts, ty, pos, af, g⟩ e w K := by
  obtain ⟨i, zv, hi, hsz, _, hz, hzc, hzl, h0⟩ := he.h
  have hv := hv'.eq
  have h1 : (parts.map fun (i, x) => (i, ev e x)).toList = vs := by rw [← hv]; simp
  have h2 := fill_eq (pl := fun i => some (i * sz, sz)) vs (zrep z n) cs hf
  have h3 : (Array.range (n * sz)).map (fun i => z.toArray[i % z.toArray.size]!) = (zrep z n).toArray := by rw [← hzl]; exact zrep_eq z n
  have h4 : ¬ (n * sz > 2 ^ 24) := by omega
  have h5 : ¬ (n * sz = 0) := by have := Nat.mul_pos hn h0; omega
  unfold OwpE
  simp only [execOp, Instr.buildSlice, Sem.run_bind, run_underlying ht.h, Result.andThen_ok, sizeOf, typeInfo, run_program, hi, Sem.run_pure, hsz, h4, if_false, h5, zeroValue, hz, hzc, h3, h1, h2, newRow, run_newObj]
  exact hK _ _ _ (own_made (n := n) (cs := cs) m hl hm)
end
/-- What holds behind a piece of code that ends a block. -/
theorem c_mid1 {P : Program} {N : Nat} {Rt : Env → World → Prop} {Q : Post} {e : Env} {w : World} {x : Code} {id : Nat} {K : Env → World → Prop} (M : Env → World → Prop) (h : wpE P N Rt x (thn M (blk id (thn K Q))) e w) (k : ∀ e w, M e w → K e w) : wpE P N Rt x (blk id (thn K Q)) e w :=
  c_mono h fun x e w hx => by cases x <;> first | exact k e w hx | exact hx
theorem c_mid2 {P : Program} {N : Nat} {Rt : Env → World → Prop} {Q : Post} {e : Env} {w : World} {x : Code} {id id' : Nat} {K : Env → World → Prop} (M : Env → World → Prop) (h : wpE P N Rt x (thn M (blk id (blk id' (thn K Q)))) e w) (k : ∀ e w, M e w → K e w) : wpE P N Rt x (blk id (blk id' (thn K Q))) e w :=
  c_mono h fun x e w hx => by cases x <;> first | exact k e w hx | exact hx
end K
end Go.Proofs.Ytgdbbaggkoillaa
/- The references' small functions: kithref01.Put, kithref02.Step, Sum, Seal, kithref05's, kithref06.in, May, Put: walks. -/
namespace Go.Proofs.Ytgdbbaggkoillaa
open K
set_option maxRecDepth 100000
set_option maxHeartbeats 4000000

theorem nat_tmod (k m : Nat) : ((k : Nat) : Int).tmod ((m : Nat) : Int) = ((k % m : Nat) : Int) := by rw [Int.tmod_eq_emod_of_nonneg (by omega)]; rfl
theorem nat_tdiv (k m : Nat) : ((k : Nat) : Int).tdiv ((m : Nat) : Int) = ((k / m : Nat) : Int) := by rw [Int.tdiv_eq_ediv_of_nonneg (by omega)]; rfl
theorem wdiv64 (k : Nat) (hk : k < 2 ^ 64) : IntKind.u64.wrap (((k : Nat) : Int).tdiv 128) = ((k / 128 : Nat) : Int) := by
  have h : ((k : Nat) : Int).tdiv 128 = ((k / 128 : Nat) : Int) := nat_tdiv k 128
  rw [h]; exact wu64 (by omega) (by omega)
theorem wdiv2 (k : Nat) (hk : k < 2 ^ 32) : IntKind.u32.wrap (((k : Nat) : Int).tdiv 2) = ((k / 2 : Nat) : Int) := by
  have h : ((k : Nat) : Int).tdiv 2 = ((k / 2 : Nat) : Int) := nat_tdiv k 2
  rw [h]; exact wu32 (by omega) (by omega)
theorem wdiv256 (k : Nat) (hk : k < 2 ^ 32) : IntKind.u32.wrap (((k : Nat) : Int).tdiv 256) = ((k / 256 : Nat) : Int) := by
  have h : ((k : Nat) : Int).tdiv 256 = ((k / 256 : Nat) : Int) := nat_tdiv k 256
  rw [h]; exact wu32 (by omega) (by omega)
theorem c_vput1 (m : Nat) (hm : m < 2 ^ 64) (w : World) : Cl Try.prog 61 #[.int .u64 m] w (fun v w' => ∃ a c, v = .slice a (vput m).length c ∧ Chg No w w' ∧ New w w' (own 5 1 a (vput m).length c (u8s (vput m)))) := by
  have hl := vput_len10 m hm
  refine f_enter (args := [_]) Try.func61 rfl rfl ?_
  have mm := Mem.nil No w
  refine c_sreg rfl ?_
  refine s1 (r_ass rfl) ?_
  refine wn ?_
  refine c_sreg rfl ?_
  refine so (o_bs0 mm fun a2 c2 w2 mm => ?_)
  refine s1 (r_ass rfl) ?_
  refine wn ?_
  refine c_seq ?_
  refine c_block ?_
  refine c_loop (fun k e w' => ∃ (x : Nat) (a : Option Addr) (c : Nat) (pre : List UInt8), k = x ∧ x ≤ m ∧ e 0 = .int .u64 x ∧ e 3 = .slice a pre.length c ∧ Mem w No w' [own 5 1 a pre.length c (u8s pre)] ∧ pre ++ vput x = vput m) m ?_ ?_
  · exact ⟨m, _, _, [], rfl, Nat.le_refl _, rfl, rfl, mm, rfl⟩
  clear mm
  rintro k e w' ⟨x, a, c, pre, rfl, hxm, h0, h3, mm, hp⟩
  have hpl : pre.length + (vput k).length ≤ 10 := by rw [← hp, List.length_append] at hl; exact hl
  refine c_seq ?_
  refine c_sreg rfl ?_
  refine s1 (r_mvi h0) ?_
  refine s1 (r_ge rfl rfl) ?_
  refine wn ?_
  refine c_cond rfl (fun h => (c_skip (t_n ?_))) (fun h => (c_exit (t_x (t_x (b_x (t_n ?_))))))
  · have hk : 128 ≤ k := by simp at h; omega
    have hs : vput k = UInt8.ofNat (k % 128 + 128) :: vput (k / 128) := by rw [vput, if_neg (by omega)]
    refine c_block ?_
    refine c_sreg rfl ?_
    refine s1 (r_mvs h3) ?_
    refine s1 (r_mvi h0) ?_
    refine s1 (r_rem rfl rfl (by decide) (nat_tmod k 128)) ?_
    refine s1 (r_add rfl rfl (show IntKind.u64.wrap _ = ((k % 128 + 128 : Nat) : Int) from wu64 (by omega) (by omega))) ?_
    refine s1 (r_cv rfl rfl) ?_
    refine so (o_bi1 mm rfl fun a3 c3 w3 mm => ?_)
    refine so (o_ap mm 0 rfl rfl rfl (src_own mm 1 rfl rfl) (by omega) (by unfold maxLen; omega) fun a4 c4 w4 mm => ?_)
    refine s1 (r_ass rfl) ?_
    refine wn ?_
    refine c_region rfl ?_
    refine s1 (r_mvi h0) ?_
    refine s1 (r_quo rfl rfl (by decide) (wdiv64 k (by omega))) ?_
    refine s1 (r_asi rfl) ?_
    refine wn (b_n (t_n ?_))
    have h2 := mm.pk [0] (by decide)
    have hl2 : (pre ++ [UInt8.ofNat (k % 128 + 128)]).length = pre.length + 1 := by simp
    rw [u8_any] at h2
    have h3 := h2.cst1 (n' := (pre ++ [UInt8.ofNat (k % 128 + 128)]).length) (cs' := u8s (pre ++ [UInt8.ofNat (k % 128 + 128)])) hl2.symm (u8s_append pre [UInt8.ofNat (k % 128 + 128)]).symm
    refine ⟨k / 128, by omega, k / 128, _, _, pre ++ [UInt8.ofNat (k % 128 + 128)], rfl, by omega, rfl, ?_, h3, ?_⟩
    · rw [hl2]; rfl
    · rw [List.append_assoc, ← hp, hs]; rfl
  · have hk : k < 128 := by simp at h; omega
    have hs : vput k = [UInt8.ofNat k] := by rw [vput, if_pos hk]
    rw [hs, List.length_singleton] at hpl
    refine c_sreg rfl ?_
    refine s1 (r_mvs h3) ?_
    refine s1 (r_mvi h0) ?_
    refine s1 (r_cv rfl rfl) ?_
    refine so (o_bi1 mm rfl fun a5 c5 w5 mm => ?_)
    refine so (o_ap mm 0 rfl rfl rfl (src_own mm 1 rfl rfl) (by omega) (by unfold maxLen; omega) fun a6 c6 w6 mm => ?_)
    refine s1 (r_ass rfl) ?_
    refine wn ?_
    have h2 := mm.pk [0] (by decide)
    rw [u8_any] at h2
    have hz : vput m = pre ++ [UInt8.ofNat k] := by rw [← hp, hs]
    have hl2 : (pre ++ [UInt8.ofNat k]).length = pre.length + 1 := by simp
    have h3 := h2.cst1 (n' := (pre ++ [UInt8.ofNat k]).length) (cs' := u8s (pre ++ [UInt8.ofNat k])) hl2.symm (u8s_append pre [UInt8.ofNat k]).symm
    rw [hz]
    refine c_ret (ret1 rfl rfl ⟨_, _, ?_, mm.chg, h3.isNew 0 rfl⟩)
    rw [hl2]; rfl

theorem lsb_mod (x : BitVec 32) : x.getLsbD 0 = decide (x.toNat % 2 = 1) := by
  rw [BitVec.getLsbD]
  exact Nat.testBit_zero x.toNat
theorem shr1_div (x : BitVec 32) : ((x >>> 1).toNat : Int) = ((x.toNat / 2 : Nat) : Int) := by rw [BitVec.toNat_ushiftRight, Nat.shiftRight_eq_div_pow]
theorem c_step2 (r : BitVec 32) (c : UInt8) (w : World) : Cl Try.prog 95 #[.int .u32 ((r.toNat : Nat) : Int), u8 c] w (fun v w' => v = .int .u32 (((crcStep r c).toNat : Nat) : Int) ∧ Chg No w w') := by
  refine f_enter (args := [_, _]) Try.func95 rfl rfl ?_
  have mm := Mem.nil No w
  refine c_sreg rfl ?_
  refine s1 (r_asi rfl) ?_
  refine wn ?_
  refine c_sreg rfl ?_
  refine s1 (r_mvi rfl) ?_
  refine s1 (r_mvi rfl) ?_
  refine s1 (r_cv rfl (bu32 c)) ?_
  refine s1 (r_bxor rfl rfl (bx32 _ _)) ?_
  refine s1 (r_asi rfl) ?_
  refine wn ?_
  refine c_seq ?_
  refine c_sreg rfl ?_
  refine s1 (r_asi rfl) ?_
  refine wn ?_
  refine c_block ?_
  refine c_loop (fun k e w' => ∃ i, k + i = 8 ∧ e 0 = .int .u32 (((crcIt i (r ^^^ c.toBitVec.setWidth 32)).toNat : Nat) : Int) ∧ e 5 = .int .i64 (i : Nat) ∧ Mem w No w' []) 8 ?_ ?_
  · exact ⟨0, rfl, rfl, rfl, mm⟩
  clear mm
  rintro k e w9 ⟨i, hki, h0, h5, mm⟩
  refine c_seq ?_
  refine c_sreg rfl ?_
  refine s1 (r_mvi h5) ?_
  refine s1 (r_lt rfl rfl) ?_
  refine wn ?_
  refine c_cond rfl (fun h => (c_skip (t_n ?_))) (fun h => (c_exit (t_x (t_x (b_x (t_n ?_))))))
  · have hi : i < 8 := by simp at h; omega
    clear h
    have hx : crcIt (i + 1) (r ^^^ c.toBitVec.setWidth 32) = crcM (crcIt i (r ^^^ c.toBitVec.setWidth 32)) := rfl
    generalize hz : crcIt (i + 1) (r ^^^ c.toBitVec.setWidth 32) = z at hx
    generalize crcIt i (r ^^^ c.toBitVec.setWidth 32) = x at *
    have hlt := x.isLt
    refine c_seq ?_
    refine c_block ?_
    refine c_sreg rfl ?_
    refine s1 (r_mvi h0) ?_
    refine s1 (r_rem rfl rfl (by decide) (nat_tmod x.toNat 2)) ?_
    refine s1 (r_asi rfl) ?_
    refine wn ?_
    refine c_sreg rfl ?_
    refine s1 (r_mvi h0) ?_
    refine s1 (r_quo rfl rfl (by decide) ((wdiv2 x.toNat (by omega)).trans (shr1_div x).symm)) ?_
    refine s1 (r_asi rfl) ?_
    refine wn ?_
    refine c_sreg rfl ?_
    refine s1 (r_mvi rfl) ?_
    refine s1 (r_eq rfl rfl) ?_
    refine wn ?_
    refine c_mid1 (fun e w' => e 0 = .int .u32 ((z.toNat : Nat) : Int) ∧ e 5 = .int .i64 (i : Nat) ∧ Mem w No w' []) ?_ ?_
    · refine c_cond rfl (fun h => ?_) (fun h => (c_skip (t_n ?_)))
      · have hb : x.getLsbD 0 = true := by rw [lsb_mod]; simp at h ⊢; omega
        refine c_region rfl ?_
        refine s1 (r_mvi rfl) ?_
        refine s1 (r_bxor rfl rfl (bx32 _ poly)) ?_
        refine s1 (r_asi rfl) ?_
        refine wn (t_n ?_)
        refine ⟨?_, h5, mm⟩
        rw [hx, crcM_if, hb]; rfl
      · have hb : x.getLsbD 0 = false := by rw [lsb_mod]; simp at h ⊢; omega
        refine ⟨?_, h5, mm⟩
        rw [hx, crcM_if, hb]; rfl
    clear mm h0 h5
    rintro e w9 ⟨h0, h5, mm⟩
    refine c_region rfl ?_
    refine s1 (r_mvi h5) ?_
    refine s1 (r_add rfl rfl (wi (by omega) (by omega))) ?_
    refine s1 (r_asi rfl) ?_
    refine wn (t_n ?_)
    exact ⟨k - 1, by omega, i + 1, by omega, by rw [hz]; exact h0, rfl, mm⟩
  · have hi : i = 8 := by simp at h; omega
    subst hi
    refine c_sreg rfl ?_
    refine s1 (r_mvi h0) ?_
    refine s1 (r_asi rfl) ?_
    refine wn ?_
    exact c_ret (ret1 rfl rfl ⟨rfl, mm.chg⟩)

theorem sub_ones (x : BitVec 32) : IntKind.u32.wrap (4294967295 - ((x.toNat : Nat) : Int)) = (((x ^^^ BitVec.allOnes 32).toNat : Nat) : Int) := by
  have h := x.isLt
  rw [BitVec.xor_allOnes, BitVec.toNat_not, wu32 (by omega) (by omega)]
  omega
theorem c_sum2 (b : List UInt8) (hb : b.length ≤ 4611686018427387904) (v : Value) (w : World) (hs : Sl w v b) : Cl Try.prog 85 #[v] w (fun v w' => v = .int .u32 (((crcSum b).toNat : Nat) : Int) ∧ Chg No w w') := by
  obtain ⟨a, c, rfl, hc, H⟩ := hs
  refine f_enter (args := [_]) Try.func85 rfl rfl ?_
  have mm := Mem.nil No w
  refine c_sreg rfl ?_
  refine s1 (r_asi rfl) ?_
  refine wn ?_
  refine c_sreg rfl ?_
  refine s1 (r_asi rfl) ?_
  refine wn ?_
  refine c_seq ?_
  refine c_sreg rfl ?_
  refine s1 (r_asi rfl) ?_
  refine wn ?_
  refine c_block ?_
  refine c_loop (fun k e w' => ∃ i, k + i = b.length ∧ e 0 = .slice a b.length c ∧ e 3 = .int .u32 (((crcReg (BitVec.allOnes 32) (b.take i)).toNat : Nat) : Int) ∧ e 4 = .int .i64 (i : Nat) ∧ Mem w No w' []) b.length ?_ ?_
  · exact ⟨0, rfl, rfl, rfl, rfl, mm⟩
  clear mm
  rintro k e w9 ⟨i, hki, h0, h3, h4, mm⟩
  refine c_seq ?_
  refine c_sreg rfl ?_
  refine s1 (r_mvi h4) ?_
  refine s1 (r_mvs h0) ?_
  refine s1 (r_len rfl) ?_
  refine s1 (r_lt rfl rfl) ?_
  refine wn ?_
  refine c_cond rfl (fun h => (c_skip (t_n ?_))) (fun h => (c_exit (t_x (t_x (b_x (t_n ?_))))))
  · have hi : i < b.length := by simp at h; omega
    clear h
    refine c_seq ?_
    refine c_block ?_
    refine c_region rfl ?_
    refine s1 (r_mvi h3) ?_
    refine s1 (r_mvs h0) ?_
    refine s1 (r_mvi h4) ?_
    refine s1 (r_ix rfl rfl (by omega) (by omega) (H.some (nth_u8s b i hi))) ?_
    refine s1 (r_ldc rfl (mm.ro H) (nth_u8s b i hi)) ?_
    refine so (o_c2 rfl rfl (c_step2 _ _ _) ?_)
    rintro _ w2 ⟨rfl, hc⟩
    have mm := mm.frame hc
    refine s1 (r_asi rfl) ?_
    refine wn (b_n (t_n ?_))
    refine c_region rfl ?_
    refine s1 (r_mvi h4) ?_
    refine s1 (r_add rfl rfl (wi (by omega) (by omega))) ?_
    refine s1 (r_asi rfl) ?_
    refine wn (t_n ?_)
    refine ⟨k - 1, by omega, i + 1, by omega, h0, ?_, rfl, mm⟩
    rw [crcReg_snoc _ _ _ hi]
    exact h3 ▸ rfl
  · have hi : i = b.length := by simp at h; omega
    subst hi
    rw [List.take_length] at h3
    refine c_sreg rfl ?_
    refine s1 (r_mvi h3) ?_
    refine s1 (r_sub rfl rfl (sub_ones _)) ?_
    refine s1 (r_asi rfl) ?_
    refine wn ?_
    exact c_ret (ret1 rfl rfl ⟨rfl, mm.chg⟩)

theorem four_snoc (s : BitVec 32) (i : Nat) (h : i < 4) : (four s).take (i + 1) = (four s).take i ++ [UInt8.ofNat (s.toNat / 2 ^ (8 * i) % 256)] := by
  have h1 : ∀ n : Nat, UInt8.ofNat (n % 256) = UInt8.ofNat n := fun n => by apply UInt8.toNat_inj.1; simp
  rw [h1]
  match i, h with
  | 0, _ => simp [four] | 1, _ => rfl | 2, _ => rfl | 3, _ => rfl
theorem c_seal2 (b : List UInt8) (hb : b.length ≤ 1000000000000) (v : Value) (w : World) (hs : Sl w v b) : Cl Try.prog 63 #[v] w (fun v w' => ∃ a c, v = .slice a (sealL b).length c ∧ Chg No w w' ∧ New w w' (own 5 1 a (sealL b).length c (u8s (sealL b)))) := by
  obtain ⟨a, c, rfl, hcc, H⟩ := hs
  refine f_enter (args := [_]) Try.func63 rfl rfl ?_
  have mm := Mem.nil No w
  refine c_sreg rfl ?_
  refine s1 (r_ass rfl) ?_
  refine wn ?_
  refine c_sreg rfl ?_
  refine s1 (r_mvs rfl) ?_
  refine so (o_c1 rfl (c_sum2 b (by omega) _ _ ⟨a, c, rfl, hcc, mm.ro H⟩) ?_)
  rintro _ w2 ⟨rfl, hc⟩
  have mm := mm.frame hc
  refine s1 (r_asi rfl) ?_
  refine wn ?_
  generalize hs : crcSum b = s
  refine c_sreg rfl ?_
  refine so (o_bs0 mm fun a3 c3 w3 mm => ?_)
  refine s1 (r_mvs rfl) ?_
  refine so (o_ap mm 0 rfl rfl rfl (src_cells (n := b.length) (mm.ro H) (by rw [u8s_length]; omega) (ones_u8s _) (by decide)) (by omega) (by unfold maxLen; omega) fun a4 c4 w4 mm => ?_)
  refine s1 (r_ass rfl) ?_
  refine wn ?_
  have mm := (mm.pk [0] (by decide)).cst1 (n' := (b ++ (four s).take 0).length) (cs' := u8s (b ++ (four s).take 0)) (by simp) (by simp [u8s])
  refine c_seq ?_
  refine c_sreg rfl ?_
  refine s1 (r_asi rfl) ?_
  refine wn ?_
  refine c_block ?_
  refine c_loop (fun k e w' => ∃ i a' c', k + i = 4 ∧ e 3 = .int .u32 ((s.toNat / 2 ^ (8 * i) : Nat) : Int) ∧ e 4 = .slice a' (b ++ (four s).take i).length c' ∧ e 5 = .int .i64 (i : Nat) ∧ Mem w No w' [own 5 1 a' (b ++ (four s).take i).length c' (u8s (b ++ (four s).take i))]) 4 ?_ ?_
  · refine ⟨0, _, _, rfl, ?_, ?_, rfl, mm⟩
    · show Value.int .u32 ((s.toNat : Nat) : Int) = _
      simp
    · show Value.slice _ (0 + b.length) _ = _
      simp
  clear mm
  rintro k e w9 ⟨i, a', c', hki, h3, h4, h5, mm⟩
  have hl : (b ++ (four s).take i).length ≤ b.length + 4 := by rw [List.length_append, List.length_take, four_length]; omega
  refine c_seq ?_
  refine c_sreg rfl ?_
  refine s1 (r_mvi h5) ?_
  refine s1 (r_lt rfl rfl) ?_
  refine wn ?_
  refine c_cond rfl (fun h => (c_skip (t_n ?_))) (fun h => (c_exit (t_x (t_x (b_x (t_n ?_))))))
  · have hi : i < 4 := by simp at h; omega
    clear h
    have hlt : s.toNat / 2 ^ (8 * i) < 4294967296 := Nat.lt_of_le_of_lt (Nat.div_le_self _ _) s.isLt
    refine c_seq ?_
    refine c_block ?_
    refine c_sreg rfl ?_
    refine s1 (r_mvs h4) ?_
    refine s1 (r_mvi h3) ?_
    refine s1 (r_rem rfl rfl (by decide) (nat_tmod _ 256)) ?_
    refine s1 (r_cv rfl rfl) ?_
    refine so (o_bi1 mm rfl fun a5 c5 w5 mm => ?_)
    refine so (o_ap mm 0 rfl rfl rfl (src_own mm 1 rfl rfl) (by omega) (by unfold maxLen; omega) fun a6 c6 w6 mm => ?_)
    refine s1 (r_ass rfl) ?_
    refine wn ?_
    rw [u8_any] at mm
    have hle : (b ++ (four s).take (i + 1)).length = (b ++ (four s).take i).length + 1 := by rw [four_snoc s i hi, ← List.append_assoc, List.length_append]; rfl
    have mm := (mm.pk [0] (by decide)).cst1 (n' := (b ++ (four s).take (i + 1)).length) (cs' := u8s (b ++ (four s).take (i + 1))) hle.symm (by rw [four_snoc s i hi, ← List.append_assoc, u8s_append (_ ++ _)]; rfl)
    refine c_region rfl ?_
    refine s1 (r_mvi h3) ?_
    refine s1 (r_quo rfl rfl (by decide) ((wdiv256 _ (by omega)).trans (congrArg Nat.cast (show s.toNat / 2 ^ (8 * i) / 256 = s.toNat / 2 ^ (8 * (i + 1)) from by rw [Nat.div_div_eq_div_mul, show 2 ^ (8 * i) * 256 = 2 ^ (8 * (i + 1)) from by rw [Nat.mul_add, Nat.pow_add]])))) ?_
    refine s1 (r_asi rfl) ?_
    refine wn (b_n (t_n ?_))
    refine c_region rfl ?_
    refine s1 (r_mvi h5) ?_
    refine s1 (r_add rfl rfl (wi (by omega) (by omega))) ?_
    refine s1 (r_asi rfl) ?_
    refine wn (t_n ?_)
    refine ⟨k - 1, by omega, i + 1, _, _, by omega, rfl, ?_, rfl, mm⟩
    rw [hle]; rfl
  · have hi : i = 4 := by simp at h; omega
    subst hi
    have hf : b ++ (four s).take 4 = sealL b := by unfold sealL; rw [hs]; rfl
    rw [hf] at mm h4
    refine c_sreg rfl ?_
    refine s1 (r_mvs h4) ?_
    refine s1 (r_ass rfl) ?_
    refine wn ?_
    refine c_ret (ret1 rfl rfl ⟨_, _, rfl, mm.chg, mm.isNew 0 rfl⟩)
end Go.Proofs.Ytgdbbaggkoillaa
/- The walk's own small logic, tenth part: jumps back; results in memory; items joined. -/
namespace Go.Proofs.Ytgdbbaggkoillaa
namespace K

/-- As Q; by a jump to l: J. -/
def jmp (l : Nat) (J : Env → World → Prop) (Q : Post) : Post
  | .goto l', e, w => l' = l ∧ J e w
  | x, e, w => Q x e w
section
variable {P : Program} {N : Nat} {Rt : Env → World → Prop} {Q : Post} {e : Env} {w : World}
theorem j_g {l : Nat} {J : Env → World → Prop} (h : J e w) : jmp l J Q (.goto l) e w := ⟨rfl, h⟩
theorem j_n {l : Nat} {J : Env → World → Prop} (h : Q .normal e w) : jmp l J Q .normal e w := h
theorem j_x {l id : Nat} {J : Env → World → Prop} (h : Q (.exit id) e w) : jmp l J Q (.exit id) e w := h
theorem c_scope {c X : Code} {l : Nat} (hf : findLabel c l = some (.seq .skip X)) (I : Nat → Env → World → Prop)
    (pass : ∀ k e w, I k e w → wpE P N Rt X (jmp l (fun e' w' => ∃ k', k' < k ∧ I k' e' w') Q) e w)
    (first : (∀ k e w, I k e w → wpE P N Rt X (jmp l (fun e' w' => ∃ k', I k' e' w') Q) e w) → wpE P N Rt c (jmp l (fun e' w' => ∃ k', I k' e' w') Q) e w) : wpE P N Rt (.scope c) Q e w := by
  have first := first (fun k e w hI => c_mono (pass k e w hI) fun x e w hx => by
    cases x with
    | goto l' => exact ⟨hx.1, hx.2.elim fun k' h => ⟨k', h.2⟩⟩
    | _ => exact hx)
  intro a ha b k cs
  have hg : gotoIn l (.inScope c :: k) = some (.code (.seq .skip X) :: .inScope c :: k) := by simp [gotoIn, hf]
  have key : ∀ n a e w, Agr N a e → I n e w → ∃ x a' w', (∃ e', Agr N a' e' ∧ endE Rt Q x e' w') ∧ Arrives P (lone (b.at a (.code (.seq .skip X) :: .inScope c :: k)) cs w) b k cs x a' w' := by
    intro n
    induction n using Nat.strongRecOn with
    | _ n ih =>
      intro a e w ha hI
      have hp : wpE P N Rt (.seq .skip X) (jmp l (fun e' w' => ∃ k', k' < n ∧ I k' e' w') Q) e w := c_seq (c_skip (t_n (pass n e w hI)))
      obtain ⟨x, a₁, w₁, ⟨e₁, ha₁, hq⟩, harr⟩ := hp a ha b (.inScope c :: k) cs
      cases x with
      | normal => exact ⟨.normal, a₁, w₁, ⟨e₁, ha₁, hq⟩, Steps.trans harr (.one step_inScope)⟩
      | exit id => exact ⟨.exit id, a₁, w₁, ⟨e₁, ha₁, hq⟩, fun k' hk => harr k' (by simp [exitTo, hk])⟩
      | goto l' =>
        obtain ⟨rfl, k', hlt, hI'⟩ := hq
        obtain ⟨x₂, a₂, w₂, hq₂, harr₂⟩ := ih _ hlt a₁ e₁ w₁ ha₁ hI'
        exact ⟨x₂, a₂, w₂, hq₂, .of_steps (harr _ hg) harr₂⟩
      | ret => exact ⟨.ret, a₁, w₁, ⟨e₁, ha₁, hq⟩, harr⟩
      | panic ch => exact ⟨.panic ch, a₁, w₁, ⟨e₁, ha₁, hq⟩, harr⟩
      | outgrown => exact ⟨.outgrown, a₁, w₁, ⟨e₁, ha₁, hq⟩, harr⟩
  obtain ⟨x, a₁, w₁, ⟨e₁, ha₁, hq⟩, harr⟩ := first a ha b (.inScope c :: k) cs
  cases x with
  | normal => exact ⟨.normal, a₁, w₁, ⟨e₁, ha₁, hq⟩, .head step_scope (Steps.trans harr (.one step_inScope))⟩
  | exit id => exact ⟨.exit id, a₁, w₁, ⟨e₁, ha₁, hq⟩, fun k' hk => .head step_scope (harr k' (by simp [exitTo, hk]))⟩
  | goto l' =>
    obtain ⟨rfl, n, hI'⟩ := hq
    obtain ⟨x₂, a₂, w₂, hq₂, harr₂⟩ := key n a₁ e₁ w₁ ha₁ hI'
    exact ⟨x₂, a₂, w₂, hq₂, .of_steps (.head step_scope (harr _ hg)) harr₂⟩
  | ret => exact ⟨.ret, a₁, w₁, ⟨e₁, ha₁, hq⟩, .of_steps (.one step_scope) harr⟩
  | panic ch => exact ⟨.panic ch, a₁, w₁, ⟨e₁, ha₁, hq⟩, .of_steps (.one step_scope) harr⟩
  | outgrown => exact ⟨.outgrown, a₁, w₁, ⟨e₁, ha₁, hq⟩, .of_steps (.one step_scope) harr⟩
end
section
variable {P : Program} {fn : Func} {R : Value → World → Prop} {e : Env} {w : World}
/-- Two results in memory: a struct, a value of one cell. -/
theorem retcs {t t' T T' S S' b b' n : Nat} {cs : List Value} {v : Value} [h' : Ag P T n] [h'' : Sc P S] (h : fn.results.toList = [.cell t T, .cell t' S]) (hv : e t = .pointer (some ⟨b, 0, none⟩)) (hb : w.heap[b]? = some (.cells cs.toArray T' (0, 0))) (hn : cs.length = n)
    (hv' : e t' = .pointer (some ⟨b', 0, none⟩)) (hb' : w.heap[b']? = some (.cells [v].toArray S' (0, 0))) (hR : R (.tuple #[.agg cs.toArray, v]) w) : retE P fn R e w :=
  ⟨[.agg cs.toArray, v], by rw [h]; exact ⟨_, _, [v], hv, lv_row hb hn, rfl, _, _, [], hv', lv_one hb', rfl, rfl⟩, hR⟩
theorem retctt {t t' t'' T T' b n : Nat} {cs : List Value} {v v' : Value} [h' : Ag P T n] (h : fn.results.toList = [.cell t T, .tmp t', .tmp t'']) (hv : e t = .pointer (some ⟨b, 0, none⟩)) (hb : w.heap[b]? = some (.cells cs.toArray T' (0, 0))) (hn : cs.length = n)
    (hv' : e t' = v) (hv'' : e t'' = v') (hR : R (.tuple #[.agg cs.toArray, v, v']) w) : retE P fn R e w :=
  ⟨[.agg cs.toArray, v, v'], by rw [h]; exact ⟨_, _, [v, v'], hv, lv_row hb hn, rfl, [v'], by rw [hv'], [], by rw [hv''], rfl⟩, hR⟩
end

/-! items joined -/
def triv : It where
  foot := fun _ => False
  holds := fun _ => True
  keep := fun _ _ _ _ => trivial
  live := fun _ _ _ h => h.elim
section
variable {w0 w w' : World} {F0 : Nat → Prop} {L L' : List It}
/-- Two items become one; the other's place is left empty. -/
theorem Mem.fuse (m : Mem w0 F0 w L) {I I' J : It} (k k' : Nat) (hk : nth L k = some I) (hk' : nth L k' = some I') (hkk : k ≠ k') (hJ : J.holds w) (hf : ∀ b, J.foot b → I.foot b ∨ I'.foot b) : Mem w0 F0 w (setN (setN L k J) k' triv) :=
  m.turn2 k k' hk hk' hkk (Chg.refl _ w) hJ trivial (fun b hb => .inl (hf b hb)) (fun _ h => h.elim) (fun _ _ h => h)
theorem nth_app {α : Type} (l m : List α) (x : α) (i : Nat) (h : nth (l ++ m) i = some x) : (i < l.length ∧ nth l i = some x) ∨ (l.length ≤ i ∧ nth m (i - l.length) = some x) := by
  rw [nth_eq] at h
  by_cases hk : i < l.length
  · rw [List.getElem?_append_left hk] at h
    exact .inl ⟨hk, by rw [nth_eq]; exact h⟩
  · rw [List.getElem?_append_right (by omega)] at h
    exact .inr ⟨by omega, by rw [nth_eq]; exact h⟩
/-- What a call that turned nothing old has left. -/
theorem Mem.join (m : Mem w0 F0 w L) (n : Mem w No w' L') : Mem w0 F0 w' (L ++ L') := by
  have m' := m.frame n.chg
  have hnew : ∀ i x, nth L' i = some x → ∀ b, x.foot b → w.heap.size ≤ b := fun i x hx b hb => (n.mine i x hx b hb).resolve_left (fun h => h)
  refine ⟨m'.chg, fun i x hx => ?_, fun i x hx => ?_, fun i j x y hx hy hne b hb hb' => ?_⟩
  · rcases nth_app L L' x i hx with ⟨_, hx⟩ | ⟨_, hx⟩
    · exact m'.ok i x hx
    · exact n.ok _ x hx
  · rcases nth_app L L' x i hx with ⟨_, hx⟩ | ⟨_, hx⟩
    · exact m'.mine i x hx
    · exact fun b hb => .inr (Nat.le_trans m.chg.size (hnew _ x hx b hb))
  · rcases nth_app L L' x i hx with ⟨hi, hx⟩ | ⟨hi, hx⟩ <;> rcases nth_app L L' y j hy with ⟨hj, hy⟩ | ⟨hj, hy⟩
    · exact m.dis i j x y hx hy hne b hb hb'
    · have := x.live w b (m.ok i x hx) hb
      have := hnew _ y hy b hb'
      omega
    · have := y.live w b (m.ok j y hy) hb'
      have := hnew _ x hx b hb
      omega
    · exact n.dis _ _ x y hx hy (by omega) b hb hb'
/-- What is new since w, of a Mem that began at w. -/
theorem Mem.rest (m : Mem w0 No w L) : Mem w0 No w L := m
end
end K
end Go.Proofs.Ytgdbbaggkoillaa
