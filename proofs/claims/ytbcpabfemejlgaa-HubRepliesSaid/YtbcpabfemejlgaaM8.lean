/- What a law's row asks, from what its walk gives: the result is true, and nothing that was there has turned. -/
import Derived.Test.YtbcpabfemejlgaaM1
import Derived.Test.YtbcpabfemejlgaaRows
import Derived.ProofKit
import Derived.SizedLaws
import Derived.Test.YtbcpabfemejlgaaM3
import Derived.OpenShut
import Derived.Test.YtbcpabfemejlgaaM4
import Derived.Test.YtbcpabfemejlgaaM2
import Derived.KernelRfl
import Derived.Test.YtbcpabfemejlgaaM7
import Derived.Test.YtbcpabfemejlgaaM5
namespace Go.Proofs.Ytbcpabfemejlgaa
open Go.ChangeShapes Go.WideShapes Go.ChangeAt Go.RowKit
namespace K

theorem Chg.below {W W' : World} (h : Chg No W W') : Below W.heap.size W W' := ⟨h.os, h.tape, h.output, h.size, fun k hk => h.same k hk (fun h => h)⟩

section
variable {H : Type} {enc : TypeId × Value → H} {P : Program}
theorem trodAll_stays (hl : laidOutB P = true) {W W' : World} {sp' : Nat → Bool} : ∀ (ts : List TypeId), ts.all (fun t => P.readableRec t && decide (t < P.types.size)) = true → ∀ (vs : List Value) (ds : List (DataW H)) (ps : List MemPlace),
    DataW.TrodAll enc P W 0 (fun _ => true) true ts vs ds ps → (∀ x ∈ ps, W.sameAt W' x) → (∀ x ∈ ps, sp' x.block = true) → DataW.TrodAll enc P W' 0 sp' true ts vs ds ps
  | [], _, vs, ds, ps, h, _, _ => by
    obtain ⟨rfl, rfl, rfl⟩ := trodAll_nil h
    exact trodAll_mk0
  | t :: ts, ht, vs, ds, ps, h, hs, hp => by
    obtain ⟨v, vs', d, ds', p, q, rfl, rfl, rfl, h1, h2⟩ := trodAll_cons h
    rw [List.all_cons, Bool.and_eq_true, Bool.and_eq_true, decide_eq_true_eq] at ht
    exact ⟨p, q, WideElems.Trod_stays hl ht.1.1 ht.1.2 h1 (fun x hx => hs x (List.mem_append_left _ hx)) (fun x hx => hp x (List.mem_append_left _ hx)),
      trodAll_stays hl ts ht.2 vs' ds' q h2 (fun x hx => hs x (List.mem_append_right _ hx)) (fun x hx => hp x (List.mem_append_right _ hx)), rfl⟩

theorem law_post {f : Func} {s : ChangeSpec} {apart fresh handsOn again : Bool} {W W' : World} {args : Array Value} {ds gs : List (DataW H)} {before : List MemPlace} {T : TypeId}
    (hl : laidOutB P = true) (hsv : s.vars = []) (hrt : f.resultTypes = #[T]) (hT : P.underlying T = some .bool) (hts : f.params.toList.all (fun t => P.readableRec t && decide (t < P.types.size)) = true)
    (hW : DataW.Whole enc P f.params.toList s.vars apart W args.toList ds gs before)
    (hr : (s.fn H (ds ++ gs)).results = [.lit (.bool true)]) (ha : (s.fn H (ds ++ gs)).args = ds) (hv : (s.fn H (ds ++ gs)).vars = []) (hc : Chg No W W') :
    s.post enc P f apart fresh handsOn again W args (.bool true) W' := by
  have hlt := hW.lt
  have hW0 := hW
  obtain ⟨p, q, hA, hV, rfl, hz, hn⟩ := hW0
  rw [hsv] at hV
  obtain ⟨rfl, rfl⟩ := trodVars_none hV
  rw [List.append_nil] at hlt hz hn
  have hb := hc.below
  have stays : ∀ sp' : Nat → Bool, (∀ x ∈ p, sp' x.block = true) → DataW.TrodAll enc P W' 0 sp' true f.params.toList args.toList (s.fn H (ds ++ [])).args p := fun sp' hs => by
    rw [ha]
    exact trodAll_stays hl _ hts _ _ _ hA (fun x hx => hb.same (hlt x hx)) hs
  have hres : ∀ (b : Nat) (sp : Nat → Bool) (hd : Bool), DataW.TrodAll enc P W' b sp hd f.resultTypes.toList ((Value.bool true).resultList f.resultTypes.size) (s.fn H (ds ++ [])).results [] := fun b sp hd => by
    rw [hr, hrt]
    exact trodAll_mk1 (shut_bool hT true)
  have hvars : ∀ sp : Nat → Bool, DataW.TrodVars enc P W' sp s.vars (s.fn H (ds ++ [])).vars [] := fun sp => by
    rw [hsv, hv]; exact rfl
  refine ⟨ds, [], p ++ [], [], p, [], hW, hres _ _ _, stays _ (fun x hx => by simpa using hlt x hx), hvars _, hb.frame _, fun _ => ⟨ok_one hrt rfl (okWide_bool_mk hT true), _, _, ([] ++ p) ++ [], ⟨[] ++ p, [], trodAll_append (stays _ (fun _ _ => rfl)) (hres _ _ _), hvars _, rfl, ?_, ?_⟩, ?_⟩⟩
  · intro b off hx
    simp only [List.nil_append, List.append_nil] at hx
    rw [hb.frozen (hlt _ hx)]
    exact hz b off hx
  · intro hap
    simpa using hn hap
  · intro x hx _
    simpa using hx
end
end K
end Go.Proofs.Ytbcpabfemejlgaa
/- An event that is handed in, opened. -/
namespace Go.Proofs.Ytbcpabfemejlgaa
open Go.ChangeShapes Go.WideShapes Go.ChangeAt Go.RowKit
open K
set_option maxRecDepth 100000

theorem Try.own : ownKnob Try.prog.godebug = none := by kernel_rfl
theorem Try.laidOut : laidOutB Try.prog = true := by kernel_rfl
theorem list12 {α : Type} {l : List α} (h : l.length = 12) : ∃ a0 a1 a2 a3 a4 a5 a6 a7 a8 a9 a10 a11, l = [a0, a1, a2, a3, a4, a5, a6, a7, a8, a9, a10, a11] := by
  match l, h with
  | [a0, a1, a2, a3, a4, a5, a6, a7, a8, a9, a10, a11], _ => exact ⟨a0, a1, a2, a3, a4, a5, a6, a7, a8, a9, a10, a11, rfl⟩
theorem list8 {α : Type} {l : List α} (h : l.length = 8) : ∃ a0 a1 a2 a3 a4 a5 a6 a7, l = [a0, a1, a2, a3, a4, a5, a6, a7] := by
  match l, h with
  | [a0, a1, a2, a3, a4, a5, a6, a7], _ => exact ⟨a0, a1, a2, a3, a4, a5, a6, a7, rfl⟩
theorem list5 {α : Type} {l : List α} (h : l.length = 5) : ∃ a0 a1 a2 a3 a4, l = [a0, a1, a2, a3, a4] := by
  match l, h with
  | [a0, a1, a2, a3, a4], _ => exact ⟨a0, a1, a2, a3, a4, rfl⟩
def i64 (n : Int) : Prop := -9223372036854775808 ≤ n ∧ n ≤ 9223372036854775807
theorem i64_wf {n : Int} (h : (Lit.int .i64 n).wf = true) : i64 n := by
  simpa [Lit.wf, IntKind.min, IntKind.max, IntKind.signed, IntKind.bits, i64] using h
theorem cells3 : Try.prog.cellsOf 3 = 1 := by kernel_rfl
theorem cells9 : Try.prog.cellsOf 9 = 1 := by kernel_rfl
theorem cells23 : Try.prog.cellsOf 31 = 5 := by kernel_rfl
theorem cells25 : Try.prog.cellsOf 67 = 12 := by kernel_rfl
structure EvIn (x : Ev) : Prop where
  r : i64 x.r
  n : i64 x.n
  c : ∀ i, i < 5 → i64 (x.c.get i)
  h : i64 x.h
  kind : i64 x.kind
  key : x.key.length < 2 ^ 47
  label : i64 x.label
  val : x.val.length < 2 ^ 47
section
variable {H : Type} {enc : TypeId × Value → H} {w : World} {base : Nat} {sp : Nat → Bool} {held : Bool}
def evD (H : Type) (x : Ev) : DataW H := .agg [.lit (.int .i64 x.r), .lit (.int .i64 x.n), .agg [.lit (.int .i64 x.c.c0), .lit (.int .i64 x.c.c1), .lit (.int .i64 x.c.c2), .lit (.int .i64 x.c.c3), .lit (.int .i64 x.c.c4)], .lit (.int .i64 x.h), .lit (.int .i64 x.kind), .lit (.string x.key), .lit (.int .i64 x.label), .lit (.string x.val)]
theorem trod_clk {n : Nat} {cs : List Value} {y : DataW H × List MemPlace} (h : DataW.trod enc Try.prog w base sp held n 31 cs = some y) :
    ∃ c : Clk, cs = clkC c ∧ y = (.agg [.lit (.int .i64 c.c0), .lit (.int .i64 c.c1), .lit (.int .i64 c.c2), .lit (.int .i64 c.c3), .lit (.int .i64 c.c4)], []) ∧ ∀ i, i < 5 → i64 (c.get i) := by
  obtain ⟨xs, m, _, hx, hl, hlen, hf⟩ := DataW.trod_array Try.underlying31 h
  obtain ⟨y0, y1, y2, y3, y4, rfl⟩ := list5 hlen
  rw [cells23] at hl
  obtain ⟨c0, c1, c2, c3, c4, rfl⟩ := list5 hl
  simp only [cells3] at hf
  obtain ⟨n0, e0, rfl, w0⟩ := DataW.trod_int Try.underlying3 (hf 0 (by decide))
  obtain ⟨n1, e1, rfl, w1⟩ := DataW.trod_int Try.underlying3 (hf 1 (by decide))
  obtain ⟨n2, e2, rfl, w2⟩ := DataW.trod_int Try.underlying3 (hf 2 (by decide))
  obtain ⟨n3, e3, rfl, w3⟩ := DataW.trod_int Try.underlying3 (hf 3 (by decide))
  obtain ⟨n4, e4, rfl, w4⟩ := DataW.trod_int Try.underlying3 (hf 4 (by decide))
  refine ⟨⟨n0, n1, n2, n3, n4⟩, ?_, hx, ?_⟩
  · injection e0 with e0; injection e1 with e1; injection e2 with e2; injection e3 with e3; injection e4 with e4
    subst e0; subst e1; subst e2; subst e3; subst e4; rfl
  · intro i hi
    match i, hi with
    | 0, _ => exact i64_wf w0 | 1, _ => exact i64_wf w1 | 2, _ => exact i64_wf w2 | 3, _ => exact i64_wf w3 | 4, _ => exact i64_wf w4

theorem trod_ev {n : Nat} {cs : List Value} {y : DataW H × List MemPlace} (h : DataW.trod enc Try.prog w base sp held n 67 cs = some y) :
    ∃ x : Ev, cs = evC x ∧ y = (evD H x, []) ∧ (((evD H x).weights Try.prog 67).all (· ≤ reachBytes) = true → EvIn x) := by
  obtain ⟨xs, m, _, hx, hl, hlen, hf⟩ := DataW.trod_struct Try.underlying67 h
  obtain ⟨y0, y1, y2, y3, y4, y5, y6, y7, rfl⟩ := list8 hlen
  rw [cells25] at hl
  obtain ⟨c0, c1, c2, c3, c4, c5, c6, c7, c8, c9, c10, c11, rfl⟩ := list12 hl
  have g0 : DataW.trod enc Try.prog w base sp held m 3 (List.take (Try.prog.cellsOf 3) _) = _ := hf 0 _ rfl
  rw [cells3] at g0
  have g1 : DataW.trod enc Try.prog w base sp held m 3 (List.take (Try.prog.cellsOf 3) _) = _ := hf 1 _ rfl
  rw [cells3] at g1
  have g2 : DataW.trod enc Try.prog w base sp held m 31 (List.take (Try.prog.cellsOf 31) _) = _ := hf 2 _ rfl
  rw [cells23] at g2
  have g3 : DataW.trod enc Try.prog w base sp held m 3 (List.take (Try.prog.cellsOf 3) _) = _ := hf 3 _ rfl
  rw [cells3] at g3
  have g4 : DataW.trod enc Try.prog w base sp held m 3 (List.take (Try.prog.cellsOf 3) _) = _ := hf 4 _ rfl
  rw [cells3] at g4
  have g5 : DataW.trod enc Try.prog w base sp held m 9 (List.take (Try.prog.cellsOf 9) _) = _ := hf 5 _ rfl
  rw [cells9] at g5
  have g6 : DataW.trod enc Try.prog w base sp held m 3 (List.take (Try.prog.cellsOf 3) _) = _ := hf 6 _ rfl
  rw [cells3] at g6
  have g7 : DataW.trod enc Try.prog w base sp held m 9 (List.take (Try.prog.cellsOf 9) _) = _ := hf 7 _ rfl
  rw [cells9] at g7
  obtain ⟨n0, e0, rfl, w0⟩ := DataW.trod_int Try.underlying3 g0
  obtain ⟨n1, e1, rfl, w1⟩ := DataW.trod_int Try.underlying3 g1
  obtain ⟨c, e2, rfl, w2⟩ := trod_clk g2
  obtain ⟨n3, e3, rfl, w3⟩ := DataW.trod_int Try.underlying3 g3
  obtain ⟨n4, e4, rfl, w4⟩ := DataW.trod_int Try.underlying3 g4
  obtain ⟨n5, e5, rfl, w5⟩ := DataW.trod_string Try.underlying9 g5
  obtain ⟨n6, e6, rfl, w6⟩ := DataW.trod_int Try.underlying3 g6
  obtain ⟨n7, e7, rfl, w7⟩ := DataW.trod_string Try.underlying9 g7
  refine ⟨⟨n0, n1, c, n3, n4, n5.data.toList, n6, n7.data.toList⟩, ?_, hx, ?_⟩
  · injection e0 with e0; injection e1 with e1; injection e3 with e3; injection e4 with e4; injection e5 with e5; injection e6 with e6; injection e7 with e7
    injection e2 with q0 e2; injection e2 with q1 e2; injection e2 with q2 e2; injection e2 with q3 e2; injection e2 with q4 e2
    subst e0; subst e1; subst e3; subst e4; subst e5; subst e6; subst e7; subst q0; subst q1; subst q2; subst q3; subst q4
    rfl
  · intro hw
    simp only [evD, DataW.weights, Try.underlying67, Try.underlying31, Try.underlying3, DataW.weightsEach, DataW.weightsAll, List.map, List.nil_append, List.append_nil, List.all_append, List.all_cons, List.all_nil, Bool.and_true, Bool.and_eq_true, decide_eq_true_eq] at hw
    exact ⟨i64_wf w0, i64_wf w1, w2, i64_wf w3, i64_wf w4, Nat.lt_of_le_of_lt hw.1 reachBytes_lt, i64_wf w6, Nat.lt_of_le_of_lt hw.2 reachBytes_lt⟩
theorem open_ev {b0 : Nat} {v : Value} {d : DataW H} {p : List MemPlace} (hv : Value.okWide Try.prog w .any b0 67 v) (h : DataW.Trod enc Try.prog w base sp held 67 v d p) :
    ∃ x : Ev, v = .agg (evC x).toArray ∧ d = evD H x ∧ p = [] ∧ (((evD H x).weights Try.prog 67).all (· ≤ reachBytes) = true → EvIn x) := by
  obtain ⟨⟨l⟩, rfl, hsz⟩ := okWide_struct Try.underlying67 hv
  obtain ⟨fuel, hf⟩ := h
  obtain ⟨x, hc, hy, hw⟩ := trod_ev (show DataW.trod enc Try.prog w base sp held fuel 67 l = some (d, p) from hf)
  subst hc
  injection hy with h1 h2
  exact ⟨x, rfl, h1, h2, hw⟩
end
end Go.Proofs.Ytbcpabfemejlgaa
/- Two events compared. -/
namespace Go.Proofs.Ytbcpabfemejlgaa
open K
set_option maxRecDepth 100000
theorem ev_guard : Try.prog.eqGuardType Try.prog.depth 67 = false := by kernel_rfl
theorem ev_key : Try.prog.keyTypeAt 3 67 = true := by kernel_rfl
def evL (x : Ev) : List Lit := [.int .i64 x.r, .int .i64 x.n, .int .i64 x.c.c0, .int .i64 x.c.c1, .int .i64 x.c.c2, .int .i64 x.c.c3, .int .i64 x.c.c4, .int .i64 x.h, .int .i64 x.kind, .string x.key, .int .i64 x.label, .string x.val]
theorem ev_formed (x : Ev) : (Value.agg (evC x).toArray).formed Try.prog 67 = true := by kernel_rfl
structure EvW (x : Ev) : Prop where
  r : i64 x.r
  n : i64 x.n
  c0 : i64 x.c.c0
  c1 : i64 x.c.c1
  c2 : i64 x.c.c2
  c3 : i64 x.c.c3
  c4 : i64 x.c.c4
  h : i64 x.h
  kind : i64 x.kind
  key : x.key.length ≤ maxLen
  label : i64 x.label
  val : x.val.length ≤ maxLen
theorem wf_i64 {n : Int} (h : i64 n) : (Lit.int .i64 n).wf = true := by
  have h1 := h.1; have h2 := h.2
  simp [Lit.wf, IntKind.min, IntKind.max, IntKind.signed, IntKind.bits]
  omega
theorem lit_int {D : Nat} {n : Int} (h : i64 n) : Try.prog.keyLits (D + 1) 3 [.int .i64 n] = some [.int .i64 n] := by
  unfold Program.keyLits
  rw [Try.underlying3]
  exact if_pos ⟨rfl, wf_i64 h⟩
theorem lit_str {D : Nat} {l : List UInt8} (h : l.length ≤ maxLen) : Try.prog.keyLits (D + 1) 9 [str l] = some [.string l] := by
  unfold Program.keyLits
  rw [Try.underlying9]
  exact if_pos (show (⟨l.toArray⟩ : ByteArray).size ≤ maxLen by simpa [ByteArray.size] using h)
theorem lit_clk {D : Nat} {c : Clk} (h0 : i64 c.c0) (h1 : i64 c.c1) (h2 : i64 c.c2) (h3 : i64 c.c3) (h4 : i64 c.c4) : Try.prog.keyLits (D + 2) 31 (clkC c) = some [.int .i64 c.c0, .int .i64 c.c1, .int .i64 c.c2, .int .i64 c.c3, .int .i64 c.c4] := by
  unfold Program.keyLits
  rw [Try.underlying31]
  simp only [cells3, cells23]
  rw [if_pos (show (clkC c).length = 5 from rfl)]
  simp [List.range, List.range.loop, clkC, lit_int h0, lit_int h1, lit_int h2, lit_int h3, lit_int h4]
theorem ev_lits (x : Ev) (h : EvW x) : Try.prog.keyLits 4 67 (evC x) = some (evL x) := by
  unfold Program.keyLits
  rw [Try.underlying67]
  simp only [cells3, cells9, cells23, cells25]
  rw [if_pos ⟨show (evC x).length = 12 from rfl, by kernel_rfl⟩]
  have e := lit_clk (D := 1) h.c0 h.c1 h.c2 h.c3 h.c4
  unfold clkC at e
  simp [cells3, cells9, cells23, evC, lit_int h.r, lit_int h.n, e, lit_int h.h, lit_int h.kind, lit_str h.key, lit_int h.label, lit_str h.val, evL]
theorem ev_iff (x y : Ev) : evL x = evL y ↔ x = y := by
  constructor
  · intro h
    obtain ⟨r, n, ⟨c0, c1, c2, c3, c4⟩, hh, k, key, l, v⟩ := x
    obtain ⟨r', n', ⟨c0', c1', c2', c3', c4'⟩, hh', k', key', l', v'⟩ := y
    simp [evL] at h
    simp [h]
  · intro h; rw [h]
theorem ev_eq (x y : Ev) (hx : EvW x) (hy : EvW y) (w : World) : (Op.equalIn 10000 67 (.agg (evC x).toArray) (.agg (evC y).toArray)).run Try.prog w = .ok (decide (x = y)) w :=
  run_eqa ev_key (by decide) (ev_formed x) (ev_formed y) (ev_lits x hx) (ev_lits y hy) (ev_iff x y)
end Go.Proofs.Ytbcpabfemejlgaa
/- crc: Step, Sum, four, Seal, Open; slices: Concat, Clone, Grow: walks. -/
namespace Go.Proofs.Ytbcpabfemejlgaa
open K
set_option maxRecDepth 100000
set_option maxHeartbeats 4000000

def u32v (x : BitVec 32) : Value := .int .u32 ((x.toNat : Nat) : Int)
theorem c_step (r : BitVec 32) (c : UInt8) (w : World) : Cl Try.prog 79 #[.int .u32 ((r.toNat : Nat) : Int), u8 c] w (fun v w' => v = .int .u32 (((crcStep r c).toNat : Nat) : Int) ∧ Chg No w w') := by
  refine f_enter (args := [_, _]) Try.func79 rfl rfl ?_
  have mm := Mem.nil No w
  refine c_sreg rfl ?_
  refine s1 (r_asi rfl) ?_
  refine wn ?_
  refine c_sreg rfl ?_
  refine s1 (r_mvi rfl) ?_
  refine s1 (r_mvi rfl) ?_
  refine s1 (r_cv rfl (bu32 c)) ?_
  refine s1 (r_bxor rfl rfl (bx32 _ _)) ?_
  refine s1 (r_asi rfl) ?_
  refine wn ?_
  refine c_seq ?_
  refine c_sreg rfl ?_
  refine s1 (r_mvi rfl) ?_
  refine wn ?_
  refine c_block ?_
  refine c_loop (fun k e w' => ∃ i, k + i = 8 ∧ e 0 = .int .u32 (((crcIt i (r ^^^ c.toBitVec.setWidth 32)).toNat : Nat) : Int) ∧ e 9 = .int .i64 (i : Nat) ∧ Mem w No w' []) 8 ?_ ?_
  · exact ⟨0, rfl, rfl, rfl, mm⟩
  clear mm
  rintro k e w9 ⟨i, hki, h0, h9, mm⟩
  refine c_sreg rfl ?_
  refine s1 (r_lt h9 rfl) ?_
  refine wn ?_
  refine c_seq ?_
  refine c_cond rfl (fun h => (c_skip (t_n ?_))) (fun h => (c_exit (t_x (t_x (b_x (t_n ?_))))))
  · have hi : i < 8 := by simp at h; omega
    clear h
    refine c_seq ?_
    refine c_block ?_
    refine c_region rfl ?_
    refine s1 (r_mvi h0) ?_
    refine s1 (r_shr rfl rfl (by decide) (bs32 _)) ?_
    refine s1 (r_mvi h0) ?_
    refine s1 (r_band rfl rfl (ba32 _ 1#32)) ?_
    refine s1 (r_neg rfl (bn32 _)) ?_
    refine s1 (r_band rfl rfl (ba32 poly _)) ?_
    refine s1 (r_bxor rfl rfl (bx32 _ _)) ?_
    refine s1 (r_asi rfl) ?_
    refine wn (b_n (t_n ?_))
    refine c_region rfl ?_
    refine s1 (r_add h9 rfl (wi (by omega) (by omega))) ?_
    refine s1 (r_mvi rfl) ?_
    refine wn (t_n ?_)
    exact ⟨k - 1, by omega, i + 1, by omega, rfl, rfl, mm⟩
  · have hi : i = 8 := by simp at h; omega
    subst hi
    refine c_sreg rfl ?_
    refine s1 (r_mvi h0) ?_
    refine s1 (r_asi rfl) ?_
    refine wn ?_
    exact c_ret (ret1 rfl rfl ⟨rfl, mm.chg⟩)

theorem crcReg_snoc (r : BitVec 32) (b : List UInt8) (i : Nat) (h : i < b.length) : crcReg r (b.take (i + 1)) = crcStep (crcReg r (b.take i)) (b.getD i 0) := by
  have : b.take (i + 1) = b.take i ++ [b.getD i 0] := by rw [List.take_succ_eq_append_getElem h]; simp [List.getD, h]
  rw [this, crcReg, List.foldl_append]; rfl
theorem c_sum (b : List UInt8) (hb : b.length ≤ 4611686018427387904) (v : Value) (w : World) (hs : Sl w v b) : Cl Try.prog 55 #[v] w (fun v w' => v = .int .u32 (((crcSum b).toNat : Nat) : Int) ∧ Chg No w w') := by
  obtain ⟨a, c, rfl, hc, H⟩ := hs
  refine f_enter (args := [_]) Try.func55 rfl rfl ?_
  have mm := Mem.nil No w
  refine c_sreg rfl ?_
  refine s1 (r_asi rfl) ?_
  refine wn ?_
  refine c_sreg rfl ?_
  refine s1 (r_asi rfl) ?_
  refine wn ?_
  refine c_seq ?_
  refine c_sreg rfl ?_
  refine s1 (r_mvs rfl) ?_
  refine s1 (r_len rfl) ?_
  refine s1 (r_mvi rfl) ?_
  refine wn ?_
  refine c_block ?_
  refine c_loop (fun k e w' => ∃ i, k + i = b.length ∧ e 3 = .int .u32 (((crcReg (BitVec.allOnes 32) (b.take i)).toNat : Nat) : Int) ∧ e 6 = .slice a b.length c ∧ e 7 = .int .i64 (b.length : Nat) ∧ e 8 = .int .i64 (i : Nat) ∧ Mem w No w' []) b.length ?_ ?_
  · exact ⟨0, rfl, rfl, rfl, rfl, rfl, mm⟩
  clear mm
  rintro k e w9 ⟨i, hki, h3, h6, h7, h8, mm⟩
  refine c_sreg rfl ?_
  refine s1 (r_lt h8 h7) ?_
  refine wn ?_
  refine c_seq ?_
  refine c_cond rfl (fun h => (c_skip (t_n ?_))) (fun h => (c_exit (t_x (t_x (b_x (t_n ?_))))))
  · have hi : i < b.length := by simp at h; omega
    clear h
    refine c_seq ?_
    refine c_block ?_
    refine c_sreg rfl ?_
    refine s1 (r_ix h6 h8 (by omega) (by omega) (H.some (nth_u8s b i hi))) ?_
    refine s1 (r_ldc rfl (mm.ro H) (nth_u8s b i hi)) ?_
    refine s1 (r_asi rfl) ?_
    refine wn ?_
    refine c_region rfl ?_
    refine s1 (r_mvi h3) ?_
    refine s1 (r_mvi rfl) ?_
    refine so (o_c2 rfl rfl (c_step _ _ _) ?_)
    rintro _ w2 ⟨rfl, hc⟩
    have mm := mm.frame hc
    refine s1 (r_asi rfl) ?_
    refine wn (b_n (t_n ?_))
    refine c_region rfl ?_
    refine s1 (r_add h8 rfl (wi (by omega) (by omega))) ?_
    refine s1 (r_mvi rfl) ?_
    refine wn (t_n ?_)
    refine ⟨k - 1, by omega, i + 1, by omega, ?_, h6, h7, rfl, mm⟩
    rw [crcReg_snoc _ _ _ hi]
    exact h3 ▸ rfl
  · have hi : i = b.length := by simp at h; omega
    subst hi
    rw [List.take_length] at h3
    refine c_sreg rfl ?_
    refine s1 (r_mvi h3) ?_
    refine s1 (r_bxor rfl rfl (bx32 _ (BitVec.allOnes 32))) ?_
    refine s1 (r_asi rfl) ?_
    refine wn ?_
    exact c_ret (ret1 rfl rfl ⟨rfl, mm.chg⟩)

def part4 (s : BitVec 32) (i : Nat) : List UInt8 := (four s).take i ++ List.replicate (4 - i) 0
theorem setN_part4 (s : BitVec 32) (i : Nat) (h : i < 4) : setN (u8s (part4 s i)) (0 + ((i : Nat) : Int).toNat * 1) (u8 ((four s).getD i 0)) = u8s (part4 s (i + 1)) := by
  match i, h with
  | 0, _ => rfl | 1, _ => rfl | 2, _ => rfl | 3, _ => rfl
theorem part4_length (s : BitVec 32) (i : Nat) (h : i ≤ 4) : (u8s (part4 s i)).length = 4 := by rw [u8s_length]; simp [part4, four_length]; omega
theorem c_four (s : BitVec 32) (w : World) : Cl Try.prog 54 #[.int .u32 ((s.toNat : Nat) : Int)] w (fun v w' => v = .agg (u8s (four s)).toArray ∧ Chg No w w') := by
  refine f_enter (args := [_]) Try.func54 rfl rfl ?_
  have mm := Mem.nil No w
  refine c_sreg rfl ?_
  refine so (o_al mm fun b2 w2 mm => ?_)
  refine wn ?_
  refine c_sreg rfl ?_
  refine so (o_al mm fun b3 w3 mm => ?_)
  refine wn ?_
  refine c_seq ?_
  refine c_sreg rfl ?_
  refine s1 (r_mvi rfl) ?_
  refine wn ?_
  have mm : Mem w No w3 [bk b2 (u8s [0, 0, 0, 0]) 109, bk b3 (u8s (part4 s 0)) 109] := mm
  refine c_block ?_
  refine c_loop (fun k e w' => ∃ i, k + i = 4 ∧ e 0 = .int .u32 ((s.toNat : Nat) : Int) ∧ e 2 = .pointer (some ⟨b2, 0, none⟩) ∧ e 3 = .pointer (some ⟨b3, 0, none⟩) ∧ e 5 = .int .i64 (i : Nat) ∧ Mem w No w' [bk b2 (u8s [0, 0, 0, 0]) 109, bk b3 (u8s (part4 s i)) 109]) 4 ?_ ?_
  · exact ⟨0, rfl, rfl, rfl, rfl, rfl, mm⟩
  clear mm
  rintro k e w9 ⟨i, hki, h0, h2, h3, h5, mm⟩
  refine c_sreg rfl ?_
  refine s1 (r_lt h5 rfl) ?_
  refine wn ?_
  refine c_seq ?_
  refine c_cond rfl (fun h => (c_skip (t_n ?_))) (fun h => (c_exit (t_x (t_x (b_x (t_n ?_))))))
  · have hi : i < 4 := by simp at h; omega
    clear h
    refine c_seq ?_
    refine c_block ?_
    refine c_sreg rfl ?_
    refine s1 (r_mvi h5) ?_
    refine s1 (r_asi rfl) ?_
    refine wn ?_
    refine c_region rfl ?_
    refine s1 (r_mvi rfl) ?_
    refine s1 (r_mvi h0) ?_
    refine s1 (r_mvi rfl) ?_
    refine s1 (r_mul rfl rfl (wi (by omega) (by omega))) ?_
    refine s1 (r_shr rfl rfl (by omega) rfl) ?_
    refine s1 (r_cv rfl rfl) ?_
    refine s1 (r_ixa h3 rfl (by omega) (by omega)) ?_
    refine ss (o_st mm 1 rfl rfl rfl rfl (by have := part4_length s i (by omega); rw [this]; simp [Nat.blt_eq]; omega) fun w4 mm => ?_)
    refine wn (b_n (t_n ?_))
    rw [four_get s i hi] at mm
    have mm : Mem w No _ [bk b2 (u8s [0, 0, 0, 0]) 109, bk b3 (setN (u8s (part4 s i)) (0 + ((i : Nat) : Int).toNat * 1) (u8 ((four s).getD i 0))) 109] := mm
    rw [setN_part4 s i hi] at mm
    refine c_region rfl ?_
    refine s1 (r_add h5 rfl (wi (by omega) (by omega))) ?_
    refine s1 (r_mvi rfl) ?_
    refine wn (t_n ?_)
    exact ⟨k - 1, by omega, i + 1, by omega, h0, h2, h3, rfl, mm⟩
  · have hi : i = 4 := by simp at h; omega
    subst hi
    refine c_sreg rfl ?_
    refine s1 (r_lda h3 (mm.b 1 rfl) rfl) ?_
    refine ss (o_sta mm 0 rfl h2 rfl rfl rfl (Nat.le_of_ble_eq_true rfl) fun w5 mm => ?_)
    refine wn ?_
    exact c_ret (retc rfl h2 (mm.b 0 rfl) rfl ⟨rfl, mm.chg⟩)

theorem c_grow (n : Nat) (hn : n ≤ 1099511627776) (w : World) : Cl Try.prog 99 #[.slice none 0 0, .int .i64 (n : Nat)] w (fun v w' => ∃ a c, v = .slice a 0 c ∧ Chg No w w' ∧ New w w' (own 5 1 a 0 c [])) := by
  refine f_enter (args := [_, _]) Try.func99 rfl rfl ?_
  have mm := Mem.nil No w
  refine c_sreg rfl ?_
  refine s1 (r_ass rfl) ?_
  refine wn ?_
  refine c_seq ?_
  refine c_sreg rfl ?_
  refine s1 (r_mvi rfl) ?_
  refine s1 (r_lt rfl rfl) ?_
  refine wn ?_
  refine c_cond rfl (fun h => ?_) (fun h => (c_skip (t_n ?_)))
  · simp at h; omega
  clear h
  refine c_seq ?_
  refine c_sreg rfl ?_
  refine s1 (r_mvi rfl) ?_
  refine s1 (r_mvs rfl) ?_
  refine s1 (r_cap rfl) ?_
  refine s1 (r_mvs rfl) ?_
  refine s1 (r_len rfl) ?_
  refine s1 (r_sub rfl rfl (show IntKind.i64.wrap _ = 0 from by decide)) ?_
  refine s1 (r_sub rfl rfl ((wi (by omega) (by omega)).trans (Int.sub_zero _))) ?_
  refine s1 (r_asi rfl) ?_
  refine wn ?_
  refine c_sreg rfl ?_
  refine s1 (r_mvi rfl) ?_
  refine s1 (r_gt rfl rfl) ?_
  refine wn ?_
  refine c_mid0 (fun e w' => ∃ a c, e 0 = .slice a 0 c ∧ Mem w No w' [own 5 1 a 0 c []]) ?_ ?_
  · refine c_cond rfl (fun h => ?_) (fun h => (c_skip (t_n ?_)))
    · have h0 : 0 < n := by simp at h; omega
      refine c_region rfl ?_
      refine s1 (r_mvs rfl) ?_
      refine s1 (r_mvs rfl) ?_
      refine s1 (r_cap rfl) ?_
      refine s1 (r_slh rfl rfl (by omega) (by omega)) ?_
      refine s1 (r_mvi rfl) ?_
      refine so (o_apz mm rfl rfl h0 (by unfold maxLen; omega) (by omega) fun a2 c2 w2 mm hcap2 => ?_)
      refine s1 (r_mvs rfl) ?_
      refine s1 (r_len rfl) ?_
      refine s1 (r_slh rfl rfl (by omega) (by omega)) ?_
      refine s1 (r_ass rfl) ?_
      refine wn (t_n ?_)
      exact ⟨_, _, rfl, mm⟩
    · exact ⟨none, 0, rfl, mm.nilrow⟩
  clear mm
  rintro e w9 ⟨a, c, h0, mm⟩
  refine c_sreg rfl ?_
  refine s1 (r_mvs h0) ?_
  refine s1 (r_ass rfl) ?_
  refine wn ?_
  exact c_ret (ret1 rfl rfl ⟨a, c, rfl, mm.chg, mm.isNew 0 rfl⟩)
end Go.Proofs.Ytbcpabfemejlgaa
/- slices.Concat of two, crc.Seal, slices.Clone, crc.Open: walks. -/
namespace Go.Proofs.Ytbcpabfemejlgaa
open K
set_option maxRecDepth 100000
set_option maxHeartbeats 4000000

def acc2 (p q : List UInt8) : Nat → List UInt8
  | 0 => [] | 1 => p | _ => p ++ q
theorem acc2_le (p q : List UInt8) : ∀ i, (acc2 p q i).length ≤ p.length + q.length
  | 0 => Nat.zero_le _ | 1 => Nat.le_add_right _ _ | _ + 2 => by simp [acc2]
theorem acc2_get {w : World} (p q : List UInt8) {aa ab : Option Addr} {ca cb : Nat} (h1 : Cells w aa (u8s p)) (h2 : Cells w ab (u8s q)) (i : Nat) (h : i < 2) :
    ∃ ai ci li, nth [Value.slice aa p.length ca, Value.slice ab q.length cb] (((i : Nat) : Int).toNat * 1) = some (.slice ai li.length ci) ∧ Cells w ai (u8s li) ∧ acc2 p q (i + 1) = acc2 p q i ++ li := by
  match i, h with
  | 0, _ => exact ⟨aa, ca, p, rfl, h1, rfl⟩
  | 1, _ => exact ⟨ab, cb, q, rfl, h2, rfl⟩
theorem c_concat2 (p q : List UInt8) (hl : p.length + q.length ≤ 1099511627776) {a aa ab : Option Addr} {c ca cb : Nat} (w : World) (H : Cells w a [Value.slice aa p.length ca, Value.slice ab q.length cb]) (h1 : Cells w aa (u8s p)) (h2 : Cells w ab (u8s q)) :
    Cl Try.prog 78 #[.slice a 2 c] w (fun v w' => ∃ a' c', v = .slice a' (p ++ q).length c' ∧ Chg No w w' ∧ New w w' (own 5 1 a' (p ++ q).length c' (u8s (p ++ q)))) := by
  refine f_enter (args := [_]) Try.func78 rfl rfl ?_
  have mm := Mem.nil No w
  refine c_sreg rfl ?_
  refine s1 (r_ass rfl) ?_
  refine wn ?_
  refine c_sreg rfl ?_
  refine s1 (r_asi rfl) ?_
  refine wn ?_
  refine c_seq ?_
  refine c_sreg rfl ?_
  refine s1 (r_mvs rfl) ?_
  refine s1 (r_len rfl) ?_
  refine s1 (r_mvi rfl) ?_
  refine wn ?_
  refine c_block ?_
  refine c_loop (fun k e w' => ∃ i, k + i = 2 ∧ e 0 = .slice a 2 c ∧ e 3 = .int .i64 (acc2 p q i).length ∧ e 9 = .slice a 2 c ∧ e 10 = .int .i64 2 ∧ e 11 = .int .i64 (i : Nat) ∧ Mem w No w' []) 2 ?_ ?_
  · exact ⟨0, rfl, rfl, rfl, rfl, rfl, rfl, mm⟩
  clear mm
  rintro k e w9 ⟨i, hki, h0, h3, h9, h10, h11, mm⟩
  refine c_sreg rfl ?_
  refine s1 (r_lt h11 h10) ?_
  refine wn ?_
  refine c_seq ?_
  refine c_cond rfl (fun h => (c_skip (t_n ?_))) (fun h => (c_exit (t_x (t_x (b_x (t_n ?_))))))
  · have hi : i < 2 := by simp at h; omega
    clear h
    obtain ⟨ai, ci, li, hg, hci, hacc⟩ := acc2_get (ca := ca) (cb := cb) p q h1 h2 i hi
    have hle := acc2_le p q (i + 1)
    rw [hacc, List.length_append] at hle
    refine c_seq ?_
    refine c_block ?_
    refine c_sreg rfl ?_
    refine s1 (r_ix h9 h11 (by omega) (by omega) (H.some hg)) ?_
    refine s1 (r_ldc rfl (mm.ro H) hg) ?_
    refine s1 (r_ass rfl) ?_
    refine wn ?_
    refine c_sreg rfl ?_
    refine s1 (r_mvi h3) ?_
    refine s1 (r_mvs rfl) ?_
    refine s1 (r_len rfl) ?_
    refine s1 (r_add rfl rfl (wi (by omega) (by omega))) ?_
    refine s1 (r_asi rfl) ?_
    refine wn ?_
    refine c_sreg rfl ?_
    refine s1 (r_mvi rfl) ?_
    refine s1 (r_lt rfl rfl) ?_
    refine wn ?_
    refine c_cond rfl (fun h => ?_) (fun h => (c_skip (b_n (t_n ?_))))
    · simp at h; omega
    clear h
    refine c_region rfl ?_
    refine s1 (r_add h11 rfl (wi (by omega) (by omega))) ?_
    refine s1 (r_mvi rfl) ?_
    refine wn (t_n ?_)
    refine ⟨k - 1, by omega, i + 1, by omega, h0, ?_, h9, h10, rfl, mm⟩
    rw [hacc, List.length_append]; rfl
  · have hi : i = 2 := by simp at h; omega
    subst hi
    refine c_sreg rfl ?_
    refine s1 (r_mvi h3) ?_
    refine so (o_c2 rfl rfl (c_grow (p ++ q).length (by rw [List.length_append]; exact hl) _) ?_)
    rintro _ w2 ⟨a2, c2, rfl, hc, hn⟩
    have mm := mm.new hc hn
    refine s1 (r_ass rfl) ?_
    refine wn ?_
    clear hc hn h h3 h9 h10 h11
    refine c_seq ?_
    refine c_sreg rfl ?_
    refine s1 (r_mvs h0) ?_
    refine s1 (r_len rfl) ?_
    refine s1 (r_mvi rfl) ?_
    refine wn ?_
    refine c_block ?_
    refine c_loop (fun k e w' => ∃ i a' c', k + i = 2 ∧ e 6 = .slice a' (acc2 p q i).length c' ∧ e 25 = .slice a 2 c ∧ e 26 = .int .i64 2 ∧ e 27 = .int .i64 (i : Nat) ∧ Mem w No w' [own 5 1 a' (acc2 p q i).length c' (u8s (acc2 p q i))]) 2 ?_ ?_
    · exact ⟨0, _, _, rfl, rfl, rfl, rfl, rfl, mm⟩
    clear mm
    rintro k e w9 ⟨i, a', c', hki, h6, h25, h26, h27, mm⟩
    refine c_sreg rfl ?_
    refine s1 (r_lt h27 h26) ?_
    refine wn ?_
    refine c_seq ?_
    refine c_cond rfl (fun h => (c_skip (t_n ?_))) (fun h => (c_exit (t_x (t_x (b_x (t_n ?_))))))
    · have hi : i < 2 := by simp at h; omega
      clear h
      obtain ⟨ai, ci, li, hg, hci, hacc⟩ := acc2_get (ca := ca) (cb := cb) p q h1 h2 i hi
      have hle := acc2_le p q (i + 1)
      rw [hacc, List.length_append] at hle
      refine c_seq ?_
      refine c_block ?_
      refine c_sreg rfl ?_
      refine s1 (r_ix h25 h27 (by omega) (by omega) (H.some hg)) ?_
      refine s1 (r_ldc rfl (mm.ro H) hg) ?_
      refine s1 (r_ass rfl) ?_
      refine wn ?_
      refine c_region rfl ?_
      refine s1 (r_mvs h6) ?_
      refine s1 (r_mvs rfl) ?_
      refine so (o_ap mm 0 rfl rfl rfl (src_cells (n := li.length) (mm.ro hci) (by rw [u8s_length]; omega) (ones_u8s _) (by decide)) (by omega) (by unfold maxLen; omega) fun a3 c3 w3 mm => ?_)
      refine s1 (r_ass rfl) ?_
      refine wn (b_n (t_n ?_))
      have mm := mm.pk [0] (by decide)
      have h9 := mm.cst1 (n' := (acc2 p q (i + 1)).length) (cs' := u8s (acc2 p q (i + 1))) (by rw [hacc, List.length_append]) (by rw [hacc, u8s_append])
      refine c_region rfl ?_
      refine s1 (r_add h27 rfl (wi (by omega) (by omega))) ?_
      refine s1 (r_mvi rfl) ?_
      refine wn (t_n ?_)
      refine ⟨k - 1, by omega, i + 1, _, _, by omega, ?_, h25, h26, rfl, h9⟩
      rw [hacc, List.length_append]; rfl
    · have hi : i = 2 := by simp at h; omega
      subst hi
      refine c_sreg rfl ?_
      refine s1 (r_mvs h6) ?_
      refine s1 (r_ass rfl) ?_
      refine wn ?_
      exact c_ret (ret1 rfl rfl ⟨_, _, rfl, mm.chg, mm.isNew 0 rfl⟩)

theorem bk_cells {w0 w : World} {F0 : Nat → Prop} {L : List It} (mm : Mem w0 F0 w L) (k : Nat) {b : Nat} {cs : List Value} {T : TypeId} (hk : nth L k = some (bk b cs T)) : Cells w (some ⟨b, 0, none⟩) cs := fun j v hj => by
  have hb := mm.b k hk
  refine ⟨_, rfl, ?_⟩
  have : (⟨b, 0, none⟩ : Addr).add j = ⟨b, j, none⟩ := by unfold Addr.add; split <;> simp_all
  rw [this, cell_of_row w b j _ _ _ hb, List.getElem?_toArray, ← nth_eq]; exact hj
theorem c_seal (b : List UInt8) (hb : b.length ≤ 1000000000000) (v : Value) (w : World) (hs : Sl w v b) : Cl Try.prog 53 #[v] w (fun v w' => ∃ a c, v = .slice a (sealL b).length c ∧ Chg No w w' ∧ New w w' (own 5 1 a (sealL b).length c (u8s (sealL b)))) := by
  have hs' := hs
  obtain ⟨a, c, rfl, hc, H⟩ := hs
  refine f_enter (args := [_]) Try.func53 rfl rfl ?_
  have mm := Mem.nil No w
  refine c_sreg rfl ?_
  refine s1 (r_ass rfl) ?_
  refine wn ?_
  refine c_sreg rfl ?_
  refine s1 (r_mvs rfl) ?_
  refine so (o_c1 rfl (c_sum b (by omega) _ _ ⟨a, c, rfl, hc, mm.ro H⟩) ?_)
  rintro _ w2 ⟨rfl, hc⟩
  have mm := mm.frame hc
  refine so (o_c1 rfl (c_four _ _) ?_)
  rintro _ w3 ⟨rfl, hc⟩
  have mm := mm.frame hc
  refine so (o_al mm fun b4 w4 mm => ?_)
  refine ss (o_sta mm 0 rfl rfl rfl rfl rfl (Nat.le_of_ble_eq_true rfl) fun w5 mm => ?_)
  refine wn ?_
  refine c_sreg rfl ?_
  refine s1 (r_mvs rfl) ?_
  refine s1 (r_sarr rfl) ?_
  refine so (o_bs2 mm rfl rfl rfl rfl fun a6 c6 w6 mm => ?_)
  refine so (o_c1 rfl (c_concat2 b (four (crcSum b)) (by rw [four_length]; omega) _ (mm.c 1 rfl) (mm.ro H) (bk_cells mm 0 rfl)) ?_)
  rintro _ w7 ⟨a7, c7, rfl, hc, hn⟩
  have mm := mm.new hc hn
  refine s1 (r_ass rfl) ?_
  refine wn ?_
  exact c_ret (ret1 rfl rfl ⟨_, _, rfl, mm.chg, mm.isNew 2 rfl⟩)

theorem c_clone (b : List UInt8) (hb : b.length ≤ 1099511627776) (v : Value) (w : World) (hs : Sl w v b) : Cl Try.prog 56 #[v] w (fun v w' => ∃ a c, v = .slice a b.length c ∧ Chg No w w' ∧ New w w' (own 5 1 a b.length c (u8s b))) := by
  obtain ⟨a, c, rfl, hc, H⟩ := hs
  refine f_enter (args := [_]) Try.func56 rfl rfl ?_
  have mm := Mem.nil No w
  refine c_sreg rfl ?_
  refine s1 (r_ass rfl) ?_
  refine wn ?_
  refine c_seq ?_
  refine c_sreg rfl ?_
  refine s1 (r_mvs rfl) ?_
  refine s1 (r_snil rfl rfl) ?_
  refine wn ?_
  refine c_cond rfl (fun h => ?_) (fun h => (c_skip (t_n ?_)))
  · have ha : a = none := by simpa using h
    subst ha
    have hb0 : b = [] := by
      cases b with
      | nil => rfl
      | cons x l => obtain ⟨_, h1, _⟩ := H 0 (u8 x) rfl; cases h1
    subst hb0
    refine c_sreg rfl ?_
    refine s1 (r_ass rfl) ?_
    refine wn ?_
    have mm := mm.nilrow (T := 5) (sz := 1)
    exact c_ret (ret1 rfl rfl ⟨none, 0, rfl, mm.chg, mm.isNew 0 rfl⟩)
  · clear h
    refine c_sreg rfl ?_
    refine so (o_bs0 mm fun a2 c2 w2 mm => ?_)
    refine s1 (r_mvs rfl) ?_
    refine so (o_ap mm 0 rfl rfl rfl (src_cells (n := b.length) (mm.ro H) (by rw [u8s_length]; omega) (ones_u8s _) (by decide)) (by omega) (by unfold maxLen; omega) fun a3 c3 w3 mm => ?_)
    refine s1 (r_ass rfl) ?_
    refine wn ?_
    have mm := mm.pk [0] (by decide)
    have h9 := mm.cst1 (n' := b.length) (cs' := u8s b) (Nat.zero_add _) rfl
    refine c_ret (ret1 rfl rfl ⟨_, _, ?_, mm.chg, h9.isNew 0 rfl⟩)
    show Value.slice _ (0 + b.length) _ = _
    rw [Nat.zero_add]

/-! arrays of four bytes, compared -/
theorem ar4_guard : Try.prog.eqGuardType Try.prog.depth 109 = false := by kernel_rfl
theorem ar4_key : Try.prog.keyTypeAt 2 109 = true := by kernel_rfl
theorem cells96 : Try.prog.cellsOf 109 = 4 := by kernel_rfl
theorem cells5u : Try.prog.cellsOf 5 = 1 := by kernel_rfl
def u8L (b : UInt8) : Lit := .int .u8 b.toNat
theorem lit_u8 {D : Nat} (b : UInt8) : Try.prog.keyLits (D + 1) 5 [u8 b] = some [u8L b] := by
  have h := b.toNat_lt
  unfold Program.keyLits
  rw [Try.underlying5]
  refine if_pos ⟨rfl, ?_⟩
  simp [Lit.wf, IntKind.min, IntKind.max, IntKind.signed, IntKind.bits]
  omega
theorem ar4_lits (b0 b1 b2 b3 : UInt8) : Try.prog.keyLits 3 109 (u8s [b0, b1, b2, b3]) = some [u8L b0, u8L b1, u8L b2, u8L b3] := by
  unfold Program.keyLits
  rw [Try.underlying109]
  simp only [cells5u, cells96]
  rw [if_pos (show (u8s [b0, b1, b2, b3]).length = 4 from rfl)]
  have e0 := lit_u8 (D := 1) b0
  have e1 := lit_u8 (D := 1) b1
  have e2 := lit_u8 (D := 1) b2
  have e3 := lit_u8 (D := 1) b3
  simp [List.range, List.range.loop, u8s, e0, e1, e2, e3]
theorem ar4_eq (x y : List UInt8) (hx : x.length = 4) (hy : y.length = 4) (w : World) : (Op.equalIn 10000 109 (.agg (u8s x).toArray) (.agg (u8s y).toArray)).run Try.prog w = .ok (decide (x = y)) w := by
  match x, hx, y, hy with
  | [a0, a1, a2, a3], _, [b0, b1, b2, b3], _ =>
    refine run_eqa ar4_key (by decide) (by kernel_rfl) (by kernel_rfl) (ar4_lits a0 a1 a2 a3) (ar4_lits b0 b1 b2 b3) ?_
    simp only [List.cons.injEq, and_true, u8L, Lit.int.injEq, true_and]
    have key : ∀ a b : UInt8, ((a.toNat : Int) = (b.toNat : Int)) ↔ a = b := fun a b => ⟨fun h => UInt8.toNat_inj.1 (by omega), fun h => by rw [h]⟩
    rw [key, key, key, key]
/-- What Open gives: the bytes and true, or none and false. -/
def openV (b : List UInt8) : List UInt8 := (openL b).getD []
theorem c_open (b : List UInt8) (hb : b.length ≤ 1099511627776) (v : Value) (w : World) (hs : Sl w v b) : Cl Try.prog 29 #[v] w (fun v w' => ∃ a c, v = .tuple #[.slice a (openV b).length c, .bool (openL b).isSome] ∧ Chg No w w' ∧ New w w' (own 5 1 a (openV b).length c (u8s (openV b)))) := by
  have hs' := hs
  obtain ⟨a, c, rfl, hcc, H⟩ := hs
  refine f_enter (args := [_]) Try.func29 rfl rfl ?_
  have mm := Mem.nil No w
  refine c_sreg rfl ?_
  refine s1 (r_ass rfl) ?_
  refine s1 (r_asb rfl) ?_
  refine wn ?_
  refine c_sreg rfl ?_
  refine s1 (r_mvs rfl) ?_
  refine s1 (r_len rfl) ?_
  refine s1 (r_sub rfl rfl (wi (by omega) (by omega))) ?_
  refine s1 (r_asi rfl) ?_
  refine wn ?_
  have hd : ∀ w', Cells w' a (u8s b) → (!(decide (((b.length : Nat) : Int) - 4 < 0))) = true → Sl w' (.slice a (((b.length : Nat) : Int) - 4).toNat c) (b.take (b.length - 4)) := fun w' hq hh => by
    simp at hh
    have h4 : (((b.length : Nat) : Int) - 4).toNat = b.length - 4 := by omega
    exact ⟨a, c, by rw [h4, List.length_take]; congr 1; omega, by rw [List.length_take]; omega, by rw [u8s, List.map_take]; exact hq.take _⟩
  have hls : (!(decide (((b.length : Nat) : Int) - 4 < 0))) = true → (b.drop (b.length - 4)).length = 4 := fun hh => by simp at hh; rw [List.length_drop]; omega
  have hseg : (!(decide (((b.length : Nat) : Int) - 4 < 0))) = true → seg ((u8s b).drop ((((b.length : Nat) : Int) - 4).toNat * 1)) 0 4 = u8s (b.drop (b.length - 4)) := fun hh => by
    have h1 := hls hh
    simp at hh
    have h4 : (((b.length : Nat) : Int) - 4).toNat = b.length - 4 := by omega
    unfold seg
    rw [h4, Nat.mul_one, List.drop_zero, u8s, ← List.map_drop, List.take_of_length_le]
    · rfl
    · rw [List.length_map, h1]; exact Nat.le_refl _
  refine c_seq ?_
  refine c_sdraw mixed [(0, true), (1, true), (2, true), (3, true), (4, true), (5, true), (8, true), (9, true), (10, true), (11, true), (12, true), (6, false), (7, false), (13, true), (14, true)] [true, true, true, true, true, true, true, true, true, true, true, true, true, true, true] (Sof mm) (by kernel_rfl) rfl rfl (by kernel_rfl) (fun w2 hc => ?_)
  have mm := mm.frame hc
  refine p1 rfl (fun w m => r_mvi rfl) mm ?_
  refine p1 rfl (fun w m => r_lt rfl rfl) mm ?_
  refine p1 rfl (fun w m => r_mvb rfl) mm ?_
  refine pF rfl rfl rfl (fun h w m => r_mvs rfl) mm ?_
  refine pF rfl rfl rfl (fun h w m => r_mvi rfl) mm ?_
  refine pF rfl rfl rfl (fun h w m => r_slh (sel_t h :) (sel_t h :) (by simp at h; omega) (by simp at h; omega)) mm ?_
  refine pF rfl rfl rfl (fun h w m => r_mvs rfl) mm ?_
  refine pF rfl rfl rfl (fun h w m => r_mvi rfl) mm ?_
  refine pF rfl rfl rfl (fun h w m => r_sll (sel_t h :) (sel_t h :) (by simp at h; omega) (by simp at h; omega)) mm ?_
  refine pF rfl rfl rfl (fun h w m => r_s2a (sel_t h :) (by simp at h ⊢; omega)) mm ?_
  refine pF rfl rfl rfl (fun h w m => r_ldce (sel_t h :) (m.ro ((H.sl (n := b.length) (sz := 1) (by rw [u8s_length]; omega) hcc (((b.length : Nat) : Int) - 4).toNat))) (hseg h) (by simp at h; rw [List.length_drop, u8s_length]; omega) (by decide)) mm ?_
  refine pFw (I := Sof mm) rfl rfl rfl mm (fun h => o_c1 (sel_t h :) (c_sum (b.take (b.length - 4)) (by rw [List.length_take]; omega) _ _ (hd _ (mm.ro H) h)) (fun _ _ hh => ⟨hh.1, mm.frame hh.2⟩)) (fun w3 mm => ⟨fun _ => mm, ?_⟩)
  refine pFw (I := Sof mm) rfl rfl rfl mm (fun h => o_c1 (sel_t h :) (c_four _ _) (fun _ _ hh => ⟨hh.1, mm.frame hh.2⟩)) (fun w4 mm => ⟨fun _ => mm, ?_⟩)
  refine pF rfl rfl rfl (fun h w m => r_nea ar4_guard (ar4_eq _ _ rfl (hls h)) (sel_t h :) (sel_t h :)) mm ?_
  refine p1 rfl (fun w m => r_or rfl rfl) mm ?_
  refine pn ?_
  refine c_cond rfl (fun h => ?_) (fun h => (c_skip (t_n ?_)))
  · have hn : openL b = none := by
      unfold openL
      by_cases h4 : b.length < 4
      · rw [if_pos h4]
      · rw [if_neg h4]
        refine if_neg ?_
        intro hq
        rw [hq] at h
        simp at h
        omega
    refine c_sreg rfl ?_
    refine s1 (r_ass rfl) ?_
    refine s1 (r_asb rfl) ?_
    refine wn ?_
    have hv : openV b = [] := by unfold openV; rw [hn]; rfl
    rw [hv, hn]
    have mm := mm.nilrow (T := 5) (sz := 1)
    exact c_ret (ret2 rfl rfl rfl ⟨none, 0, rfl, mm.chg, mm.isNew 0 rfl⟩)
  · have h4 : ¬ b.length < 4 ∧ four (crcSum (b.take (b.length - 4))) = b.drop (b.length - 4) := by
      simp at h
      have h4 : ¬ b.length < 4 := by omega
      exact ⟨h4, h.2⟩
    have hn : openL b = some (b.take (b.length - 4)) := by
      unfold openL
      rw [if_neg h4.1, if_pos h4.2]
    have hv : openV b = b.take (b.length - 4) := by unfold openV; rw [hn]; rfl
    rw [hv, hn]
    clear h
    refine c_sreg rfl ?_
    refine s1 (r_mvs rfl) ?_
    refine s1 (r_mvi rfl) ?_
    refine s1 (r_slh rfl rfl (by omega) (by omega)) ?_
    refine so (o_c1 rfl (c_clone (b.take (b.length - 4)) (by rw [List.length_take]; omega) _ _ (hd _ (mm.ro H) (by simp; omega))) ?_)
    rintro _ w5 ⟨a5, c5, rfl, hc, hn'⟩
    have mm := mm.new hc hn'
    refine s1 (r_ass rfl) ?_
    refine s1 (r_asb rfl) ?_
    refine wn ?_
    exact c_ret (ret2 rfl rfl rfl ⟨_, _, rfl, mm.chg, mm.isNew 0 rfl⟩)
end Go.Proofs.Ytbcpabfemejlgaa
/- kithref05.Fit, kithref06.edit, kithref06.Fit, kithlaw06.long, kithlaw06.shown: walks. -/
namespace Go.Proofs.Ytbcpabfemejlgaa
open K
set_option maxRecDepth 100000

theorem c_ePut0 (x : Ev) (hx : evMay x = 0) (bs : List UInt8) (hb : putE x = bs) (w : World) : Cl Try.prog 52 #[.agg (evC x).toArray] w (fun v w' => ∃ a c, v = .tuple #[.slice a bs.length c, .int .i64 0] ∧ Chg No w w' ∧ New w w' (own 5 1 a bs.length c (u8s bs))) := by
  have h := c_ePut x w
  rw [if_pos hx, hx, hb] at h
  exact h
theorem putE_first : putE ⟨1, 1, clk0, 1, 1, [99, 121], 0, []⟩ = [1, 1, 1, 0, 0, 0, 0, 1, 2, 99, 121] := by
  have h0 : vput 0 = [0] := by rw [vput]; rfl
  have h1 : vput 1 = [1] := by rw [vput]; rfl
  simp [putE, List.range, List.range.loop, clk0, Clk.get, h0, h1]

theorem c_edit6 (x : Ev) (w : World) : Cl Try.prog 68 #[.agg (evC x).toArray] w (fun v w' => v = .agg (edC x.ed).toArray ∧ Chg No w w') := by
  refine f_enter (args := [_]) Try.func68 rfl rfl ?_
  have mm := Mem.nil No w
  refine c_sreg rfl ?_
  refine so (o_bxa mm rfl fun b2 w2 mm => ?_)
  refine so (o_al mm fun b3 w3 mm => ?_)
  refine wn ?_
  refine c_sreg rfl ?_
  refine s1 (r_fa rfl) ?_
  refine s1 (r_ld rfl (mm.b 0 rfl) rfl) ?_
  refine s1 (r_fa rfl) ?_
  refine s1 (r_ld rfl (mm.b 0 rfl) rfl) ?_
  refine s1 (r_fa rfl) ?_
  refine s1 (r_ld rfl (mm.b 0 rfl) rfl) ?_
  refine s1 (r_fa rfl) ?_
  refine s1 (r_ld rfl (mm.b 0 rfl) rfl) ?_
  refine s1 (r_bd (bi rfl (bt rfl (bi rfl (bt rfl bN)))) rfl) ?_
  refine ss (o_sta mm 1 rfl rfl rfl rfl rfl (Nat.le_of_ble_eq_true rfl) fun w4 mm => ?_)
  refine wn ?_
  exact c_ret (retc rfl rfl (mm.b 1 rfl) rfl ⟨rfl, mm.chg⟩)
theorem kv3 (n : Nat) (h : n < 3) : nth [str [97, 110, 110], str [98, 111, 98], str [99, 121]] (0 + (n : Int).toNat * 1) = some (str (keys3.getD n [])) := by
  match n, h with
  | 0, _ => rfl | 1, _ => rfl | 2, _ => rfl
theorem kv4 (n : Nat) (h : n < 4) : nth [str [49], str [116, 119, 111], str [0, 255], str [116, 119, 101, 108, 118, 101, 32, 98, 121, 116, 101, 115]] (0 + (n : Int).toNat * 1) = some (str (vals4.getD n [])) := by
  match n, h with
  | 0, _ => rfl | 1, _ => rfl | 2, _ => rfl | 3, _ => rfl

end Go.Proofs.Ytbcpabfemejlgaa
/- record.fits, parts, may, Put: walks. -/
namespace Go.Proofs.Ytbcpabfemejlgaa
open K
set_option maxRecDepth 100000
set_option maxHeartbeats 4000000

theorem c_rFits (n : Int) (w : World) : Cl Try.prog 100 #[.int .i64 n] w (fun v w' => v = .bool (inEv n) ∧ Chg No w w') := by
  refine f_enter (args := [_]) Try.func100 rfl rfl ?_
  have mm := Mem.nil No w
  refine c_sreg rfl ?_
  refine s1 (r_asb rfl) ?_
  refine wn ?_
  refine c_sreg rfl ?_
  refine s1 (r_mvi rfl) ?_
  refine s1 (r_ge rfl rfl) ?_
  refine s1 (r_mvb rfl) ?_
  refine sT rfl rfl (fun h => r_mvi rfl) ?_
  refine sT rfl rfl (fun h => r_le (sel_t h :) rfl) ?_
  refine s1 (r_and rfl rfl) ?_
  refine s1 (r_asb rfl) ?_
  refine wn ?_
  exact c_ret (ret1 rfl rfl ⟨rfl, mm.chg⟩)

def prtV (k : Int) : Value := .tuple #[.agg [.bool (parts k).1, .bool (parts k).2.1, .bool (parts k).2.2.1].toArray, .bool (parts k).2.2.2]
theorem c_parts (k : Int) (w : World) : Cl Try.prog 85 #[.int .i64 k] w (fun v w' => v = prtV k ∧ Chg No w w') := by
  refine f_enter (args := [_]) Try.func85 rfl rfl ?_
  have mm := Mem.nil No w
  refine c_sreg rfl ?_
  refine so (o_al mm fun b2 w2 mm => ?_)
  refine s1 (r_asb rfl) ?_
  refine wn ?_
  have mm : Mem w No w2 [bk b2 [.bool false, .bool false, .bool false] 142] := mm
  refine c_seq ?_
  refine c_sreg rfl ?_
  refine s1 (r_mvi rfl) ?_
  refine wn ?_
  refine c_block ?_
  refine c_seq ?_
  refine c_sreg rfl ?_
  refine s1 (r_eq rfl rfl) ?_
  refine s1 (r_asb rfl) ?_
  refine wn ?_
  refine c_mid0 (fun e w' => e 2 = .pointer (some ⟨b2, 0, none⟩) ∧ e 4 = .int .i64 k ∧ e 5 = .bool (decide (k = 1 ∨ k = 2 ∨ k = 5)) ∧ Mem w No w' [bk b2 [.bool false, .bool false, .bool false] 142]) ?_ ?_
  · refine c_cond rfl (fun h => (c_skip (t_n ?_))) (fun h => ?_)
    · refine ⟨rfl, rfl, congrArg Value.bool ?_, mm⟩
      have hk : k = 1 := by simpa using h
      simp [hk]
    · have h1 : ¬ k = 1 := by simpa using h
      clear h
      refine c_sreg rfl ?_
      refine s1 (r_eq rfl rfl) ?_
      refine s1 (r_asb rfl) ?_
      refine wn ?_
      refine c_cond rfl (fun h => (c_skip (t_n ?_))) (fun h => ?_)
      · refine ⟨rfl, rfl, congrArg Value.bool ?_, mm⟩
        have hk : k = 2 := by simpa using h
        simp [hk]
      · have h2 : ¬ k = 2 := by simpa using h
        clear h
        refine c_region rfl ?_
        refine s1 (r_eq rfl rfl) ?_
        refine s1 (r_asb rfl) ?_
        refine wn (t_n ?_)
        refine ⟨rfl, rfl, congrArg Value.bool ?_, mm⟩
        simp [h1, h2]
  clear mm
  rintro e w9 ⟨h2, h4, h5, mm⟩
  refine c_cond h5 (fun h => ?_) (fun h => ?_)
  · have hk : k = 1 ∨ k = 2 ∨ k = 5 := by simpa using h
    have hp : parts k = (false, false, true, true) := if_pos hk
    refine c_sreg rfl ?_
    refine s1 (r_bd (bb rfl bN) rfl) ?_
    refine ss (o_sta mm 0 rfl h2 rfl rfl rfl (Nat.le_of_ble_eq_true rfl) fun w3 mm => ?_)
    refine s1 (r_asb rfl) ?_
    refine wn ?_
    refine c_ret (retc2 rfl h2 (mm.b 0 rfl) rfl rfl ⟨?_, mm.chg⟩)
    unfold prtV; rw [hp]; rfl
  have h1 : ¬ (k = 1 ∨ k = 2 ∨ k = 5) := by simpa using h
  clear h
  refine c_sreg rfl ?_
  refine s1 (r_eq h4 rfl) ?_
  refine s1 (r_asb rfl) ?_
  refine wn ?_
  refine c_cond rfl (fun h => ?_) (fun h => ?_)
  · have hk : k = 3 := by simpa using h
    have hp : parts k = (true, false, false, true) := (if_neg h1).trans (if_pos hk)
    refine c_sreg rfl ?_
    refine s1 (r_bd (bb rfl bN) rfl) ?_
    refine ss (o_sta mm 0 rfl h2 rfl rfl rfl (Nat.le_of_ble_eq_true rfl) fun w4 mm => ?_)
    refine s1 (r_asb rfl) ?_
    refine wn ?_
    refine c_ret (retc2 rfl h2 (mm.b 0 rfl) rfl rfl ⟨?_, mm.chg⟩)
    unfold prtV; rw [hp]; rfl
  have h3 : ¬ k = 3 := by simpa using h
  clear h
  refine c_sreg rfl ?_
  refine s1 (r_eq h4 rfl) ?_
  refine s1 (r_asb rfl) ?_
  refine wn ?_
  refine c_cond rfl (fun h => ?_) (fun h => ?_)
  · have hk : k = 4 := by simpa using h
    have hp : parts k = (true, false, true, true) := (if_neg h1).trans ((if_neg h3).trans (if_pos hk))
    refine c_sreg rfl ?_
    refine s1 (r_bd (bb rfl (bb rfl bN)) rfl) ?_
    refine ss (o_sta mm 0 rfl h2 rfl rfl rfl (Nat.le_of_ble_eq_true rfl) fun w5 mm => ?_)
    refine s1 (r_asb rfl) ?_
    refine wn ?_
    refine c_ret (retc2 rfl h2 (mm.b 0 rfl) rfl rfl ⟨?_, mm.chg⟩)
    unfold prtV; rw [hp]; rfl
  have h6 : ¬ k = 4 := by simpa using h
  clear h
  refine c_sreg rfl ?_
  refine s1 (r_eq h4 rfl) ?_
  refine s1 (r_asb rfl) ?_
  refine wn ?_
  refine c_cond rfl (fun h => ?_) (fun h => (c_skip (b_n (t_n ?_))))
  · have hk : k = 6 := by simpa using h
    have hp : parts k = (false, true, false, true) := (if_neg h1).trans ((if_neg h3).trans ((if_neg h6).trans (if_pos hk)))
    refine c_sreg rfl ?_
    refine s1 (r_bd (bb rfl bN) rfl) ?_
    refine ss (o_sta mm 0 rfl h2 rfl rfl rfl (Nat.le_of_ble_eq_true rfl) fun w6 mm => ?_)
    refine s1 (r_asb rfl) ?_
    refine wn ?_
    refine c_ret (retc2 rfl h2 (mm.b 0 rfl) rfl rfl ⟨?_, mm.chg⟩)
    unfold prtV; rw [hp]; rfl
  have h7 : ¬ k = 6 := by simpa using h
  have hp : parts k = (false, false, false, false) := (if_neg h1).trans ((if_neg h3).trans ((if_neg h6).trans (if_neg h7)))
  clear h
  refine c_sreg rfl ?_
  refine s1 (r_bd bN rfl) ?_
  refine ss (o_sta mm 0 rfl h2 rfl rfl rfl (Nat.le_of_ble_eq_true rfl) fun w7 mm => ?_)
  refine s1 (r_asb rfl) ?_
  refine wn ?_
  refine c_ret (retc2 rfl h2 (mm.b 0 rfl) rfl rfl ⟨?_, mm.chg⟩)
  unfold prtV; rw [hp]; rfl

/-! clocks compared -/
theorem clk_guard : Try.prog.eqGuardType Try.prog.depth 31 = false := by kernel_rfl
theorem clk_key : Try.prog.keyTypeAt 2 31 = true := by kernel_rfl
def ClkW (c : Clk) : Prop := i64 c.c0 ∧ i64 c.c1 ∧ i64 c.c2 ∧ i64 c.c3 ∧ i64 c.c4
theorem clk_eq (x y : Clk) (hx : ClkW x) (hy : ClkW y) (w : World) : (Op.equalIn 10000 31 (.agg (clkC x).toArray) (.agg (clkC y).toArray)).run Try.prog w = .ok (decide (x = y)) w := by
  obtain ⟨x0, x1, x2, x3, x4⟩ := hx
  obtain ⟨y0, y1, y2, y3, y4⟩ := hy
  refine run_eqa clk_key (by decide) (by kernel_rfl) (by kernel_rfl) (lit_clk (D := 1) x0 x1 x2 x3 x4) (lit_clk (D := 1) y0 y1 y2 y3 y4) ?_
  cases x; cases y
  simp
theorem clk0_w : ClkW clk0 := by unfold ClkW clk0 i64; simp

def recIt (x : Rec) (a : Option Addr) (cap b : Nat) : It := bk b (recV x a cap) 84
theorem c_recMay (x : Rec) {a : Option Addr} {cap : Nat} (w : World) (H : Cells w a (evsC x.es)) (hw : ClkW x.c) : Cl Try.prog 87 #[.agg (recV x a cap).toArray] w (fun v w' => v = .bool (recMay x) ∧ Chg No w w') := by
  refine f_enter (args := [_]) Try.func87 rfl rfl ?_
  have mm := Mem.nil No w
  refine c_sreg rfl ?_
  refine so (o_bxa mm rfl fun b2 w2 mm => ?_)
  refine s1 (r_asb rfl) ?_
  refine wn ?_
  refine c_sreg rfl ?_
  refine s1 (r_fa rfl) ?_
  refine s1 (r_ld rfl (mm.b 0 rfl) rfl) ?_
  refine so (o_c1 rfl (c_parts x.kind _) ?_)
  rintro _ w3 ⟨rfl, hc⟩
  have mm := mm.frame hc
  refine s1 (r_mvu rfl) ?_
  refine s1 (r_extg rfl rfl) ?_
  refine s1 (r_extb rfl rfl) ?_
  refine so (o_al mm fun b4 w4 mm => ?_)
  refine ss (o_sta mm 1 rfl rfl rfl rfl rfl (Nat.le_of_ble_eq_true rfl) fun w5 mm => ?_)
  refine s1 (r_asb rfl) ?_
  refine wn ?_
  refine c_seq ?_
  refine c_sreg rfl ?_
  refine s1 (r_mvb rfl) ?_
  refine s1 (r_not rfl) ?_
  refine s1 (r_mvb rfl) ?_
  refine sF rfl rfl (fun h => r_fa rfl) ?_
  refine sF rfl rfl (fun h => r_ld (sel_t h :) (mm.b 0 rfl) rfl) ?_
  refine sF rfl rfl (fun h => r_lt (sel_t h :) rfl) ?_
  refine s1 (r_or rfl rfl) ?_
  refine s1 (r_mvb rfl) ?_
  refine sF rfl rfl (fun h => r_fa rfl) ?_
  refine sF rfl rfl (fun h => r_ld (sel_t h :) (mm.b 0 rfl) rfl) ?_
  refine sF rfl rfl (fun h => r_ge (sel_t h :) rfl) ?_
  refine s1 (r_or rfl rfl) ?_
  refine s1 (r_mvb rfl) ?_
  refine sF rfl rfl (fun h => r_fa rfl) ?_
  refine sF rfl rfl (fun h => r_ld (sel_t h :) (mm.b 0 rfl) rfl) ?_
  refine sFw (I := Sof mm) rfl rfl mm (fun h => o_c1 (sel_t h :) (c_rFits x.upto _) (fun _ _ hh => ⟨hh.1, mm.frame hh.2⟩)) (fun w6 mm => ?_)
  refine sF rfl rfl (fun h => r_not (sel_t h :)) ?_
  refine s1 (r_or rfl rfl) ?_
  refine s1 (r_mvb rfl) ?_
  refine sF rfl rfl (fun h => r_fa rfl) ?_
  refine sF rfl rfl (fun h => r_ld (sel_t h :) (mm.b 1 rfl) rfl) ?_
  refine sF rfl rfl (fun h => r_not (sel_t h :)) ?_
  refine sF rfl rfl (fun h => r_mvb (sel_t h :)) ?_
  refine sTs rfl rfl (fun h => r_fa rfl) ?_
  refine sTs rfl rfl (fun h => r_ld (sel_t h :) (mm.b 0 rfl) rfl) ?_
  refine sTs rfl rfl (fun h => r_ne (sel_t h :) rfl) ?_
  refine sF rfl rfl (fun h => r_and (sel_t h :) (sel_and h :)) ?_
  refine s1 (r_or rfl rfl) ?_
  refine s1 (r_mvb rfl) ?_
  refine sF rfl rfl (fun h => r_fa rfl) ?_
  refine sF rfl rfl (fun h => r_ld (sel_t h :) (mm.b 1 rfl) rfl) ?_
  refine sF rfl rfl (fun h => r_not (sel_t h :)) ?_
  refine sF rfl rfl (fun h => r_mvb (sel_t h :)) ?_
  refine sTs rfl rfl (fun h => r_fa rfl) ?_
  refine sTs rfl rfl (fun h => r_lda (sel_t h :) (mm.b 0 rfl) rfl) ?_
  refine sTs rfl rfl (fun h => r_bd bN rfl) ?_
  refine sTs rfl rfl (fun h => r_nea clk_guard (clk_eq _ _ hw clk0_w) (sel_t h :) (sel_t h :)) ?_
  refine sF rfl rfl (fun h => r_and (sel_t h :) (sel_and h :)) ?_
  refine s1 (r_or rfl rfl) ?_
  refine s1 (r_mvb rfl) ?_
  refine sF rfl rfl (fun h => r_fa rfl) ?_
  refine sF rfl rfl (fun h => r_ld (sel_t h :) (mm.b 1 rfl) rfl) ?_
  refine sF rfl rfl (fun h => r_not (sel_t h :)) ?_
  refine sF rfl rfl (fun h => r_mvb (sel_t h :)) ?_
  refine sTs rfl rfl (fun h => r_fa rfl) ?_
  refine sTs rfl rfl (fun h => r_ld (sel_t h :) (mm.b 0 rfl) rfl) ?_
  refine sTs rfl rfl (fun h => r_len (sel_t h :)) ?_
  refine sTs rfl rfl (fun h => r_gt (sel_t h :) rfl) ?_
  refine sF rfl rfl (fun h => r_and (sel_t h :) (sel_and h :)) ?_
  refine s1 (r_or rfl rfl) ?_
  refine wn ?_
  refine c_cond rfl (fun h => ?_) (fun h => (c_skip (t_n ?_)))
  · refine c_sreg rfl ?_
    refine s1 (r_asb rfl) ?_
    refine wn ?_
    refine c_ret (ret1 rfl rfl ⟨congrArg Value.bool (?_ : false = recMay x), mm.chg⟩)
    have h : mayA x = true := h
    rw [recMay_abc, h]; rfl
  have hA : mayA x = false := h
  clear h
  refine c_seq ?_
  refine c_sreg rfl ?_
  refine s1 (r_fa rfl) ?_
  refine s1 (r_ld rfl (mm.b 0 rfl) rfl) ?_
  refine s1 (r_eq rfl rfl) ?_
  refine s1 (r_mvb rfl) ?_
  refine sT rfl rfl (fun h => r_fa rfl) ?_
  refine sT rfl rfl (fun h => r_ld (sel_t h :) (mm.b 0 rfl) rfl) ?_
  refine sT rfl rfl (fun h => r_len (sel_t h :)) ?_
  refine sT rfl rfl (fun h => r_ne (sel_t h :) rfl) ?_
  refine s1 (r_and rfl rfl) ?_
  refine s1 (r_mvb rfl) ?_
  refine sF rfl rfl (fun h => r_fa rfl) ?_
  refine sF rfl rfl (fun h => r_ld (sel_t h :) (mm.b 0 rfl) rfl) ?_
  refine sF rfl rfl (fun h => r_len (sel_t h :)) ?_
  refine sF rfl rfl (fun h => r_gt (sel_t h :) rfl) ?_
  refine s1 (r_or rfl rfl) ?_
  refine wn ?_
  refine c_cond rfl (fun h => ?_) (fun h => (c_skip (t_n ?_)))
  · refine c_sreg rfl ?_
    refine s1 (r_asb rfl) ?_
    refine wn ?_
    refine c_ret (ret1 rfl rfl ⟨congrArg Value.bool (?_ : false = recMay x), mm.chg⟩)
    have h : mayB x = true := h
    rw [recMay_abc, h, hA]; rfl
  have hB : mayB x = false := h
  clear h
  have hlen : x.es.length ≤ 4096 := by
    unfold mayB at hB
    simp at hB
    omega
  have mm : Mem w No _ [bk b2 (recV x a cap) 84] := mm.pk [0] (by decide)
  refine c_seq ?_
  refine c_sreg rfl ?_
  refine s1 (r_fa rfl) ?_
  refine s1 (r_lda rfl (mm.b 0 rfl) rfl) ?_
  refine s1 (r_mvi rfl) ?_
  refine wn ?_
  refine c_block ?_
  refine c_loop (fun k e w' => ∃ i, k + i = 5 ∧ e 1 = .pointer (some ⟨b2, 0, none⟩) ∧ e 81 = .agg (clkC x.c).toArray ∧ e 82 = .int .i64 (i : Nat) ∧ Mem w No w' [bk b2 (recV x a cap) 84] ∧ ∀ j, j < i → inEv (x.c.get j) = true) 5 ?_ ?_
  · exact ⟨0, rfl, rfl, rfl, rfl, mm, fun j hj => absurd hj (by omega)⟩
  clear mm
  rintro k e w9 ⟨i, hki, h1, h81, h82, mm, hall⟩
  refine c_sreg rfl ?_
  refine s1 (r_lt h82 rfl) ?_
  refine wn ?_
  refine c_seq ?_
  refine c_cond rfl (fun h => (c_skip (t_n ?_))) (fun h => (c_exit (t_x (t_x (b_x (t_n ?_))))))
  · have hi : i < 5 := by simp at h; omega
    clear h
    refine c_seq ?_
    refine c_block ?_
    refine c_sreg rfl ?_
    refine s1 (r_ixv h81 h82 (by omega) (by omega) (nth_clk x.c _ (by omega))) ?_
    refine s1 (r_asi rfl) ?_
    refine wn ?_
    refine c_sreg rfl ?_
    refine s1 (r_mvi rfl) ?_
    refine so (o_c1 rfl (c_rFits _ _) ?_)
    rintro _ w7 ⟨rfl, hc⟩
    have mm := mm.frame hc
    refine s1 (r_not rfl) ?_
    refine wn ?_
    refine c_cond rfl (fun h => ?_) (fun h => (c_skip (b_n (t_n ?_))))
    · refine c_sreg rfl ?_
      refine s1 (r_asb rfl) ?_
      refine wn ?_
      refine c_ret (ret1 rfl rfl ⟨congrArg Value.bool (?_ : false = recMay x), mm.chg⟩)
      have h9 : x.c.all inEv = false := by
        cases hq : x.c.all inEv with
        | false => rfl
        | true =>
          have := (Clk.all_iff _ _).1 hq i hi
          simp at h
          rw [this] at h; cases h
      rw [recMay_abc, h9, Bool.and_false]; rfl
    refine c_region rfl ?_
    refine s1 (r_add h82 rfl (wi (by omega) (by omega))) ?_
    refine s1 (r_mvi rfl) ?_
    refine wn (t_n ?_)
    refine ⟨k - 1, by omega, i + 1, by omega, h1, h81, rfl, mm, ?_⟩
    intro j hj
    rcases Nat.lt_or_ge j i with hlt | hge
    · exact hall j hlt
    · obtain rfl : j = i := by omega
      simpa using h
  have hi : i = 5 := by simp at h; omega
  subst hi
  clear h
  have hC : x.c.all inEv = true := (Clk.all_iff _ _).2 hall
  refine c_seq ?_
  refine c_sreg rfl ?_
  refine s1 (r_fa h1) ?_
  refine s1 (r_ld rfl (mm.b 0 rfl) rfl) ?_
  refine s1 (r_len rfl) ?_
  refine s1 (r_mvi rfl) ?_
  refine wn ?_
  refine c_block ?_
  refine c_loop (fun k e w' => ∃ i, k + i = x.es.length ∧ e 1 = .pointer (some ⟨b2, 0, none⟩) ∧ e 90 = .slice a x.es.length cap ∧ e 91 = .int .i64 (x.es.length : Nat) ∧ e 92 = .int .i64 (i : Nat) ∧ Mem w No w' [bk b2 (recV x a cap) 84] ∧ ∀ j, (h : j < x.es.length) → j < i → evMay x.es[j] = 0) x.es.length ?_ ?_
  · exact ⟨0, rfl, h1, rfl, rfl, rfl, mm, fun j _ hj => absurd hj (by omega)⟩
  clear mm
  rintro k e w9 ⟨i, hki, h1, h90, h91, h92, mm, hall⟩
  refine c_sreg rfl ?_
  refine s1 (r_lt h92 h91) ?_
  refine wn ?_
  refine c_seq ?_
  refine c_cond rfl (fun h => (c_skip (t_n ?_))) (fun h => (c_exit (t_x (t_x (b_x (t_n ?_))))))
  · have hi : i < x.es.length := by simp at h; omega
    clear h
    refine c_seq ?_
    refine c_block ?_
    refine c_sreg rfl ?_
    refine s1 (r_ix h90 h92 (by omega) (by omega) (evs_some H hi)) ?_
    refine s1 (r_ldce rfl (mm.ro H) (seg_evs x.es i hi) (evs_le x.es i hi) (by decide)) ?_
    refine so (o_al mm fun b8 w8 mm => ?_)
    refine ss (o_sta mm 1 rfl rfl rfl rfl rfl (Nat.le_of_ble_eq_true rfl) fun w9 mm => ?_)
    refine wn ?_
    refine c_sreg rfl ?_
    refine s1 (r_lda rfl (mm.b 1 rfl) rfl) ?_
    refine so (o_c1 rfl (c_may _ _) ?_)
    rintro _ w10 ⟨rfl, hc⟩
    have mm := mm.frame hc
    refine s1 (r_ne rfl rfl) ?_
    refine wn ?_
    refine c_cond rfl (fun h => ?_) (fun h => (c_skip (b_n (t_n ?_))))
    · refine c_sreg rfl ?_
      refine s1 (r_asb rfl) ?_
      refine wn ?_
      refine c_ret (ret1 rfl rfl ⟨congrArg Value.bool (?_ : false = recMay x), mm.chg⟩)
      have h9 : x.es.all (fun y => decide (evMay y = 0)) = false := by
        cases hq : x.es.all (fun y => decide (evMay y = 0)) with
        | false => rfl
        | true =>
          have := List.all_eq_true.1 hq x.es[i] (List.getElem_mem hi)
          simp at this h
          exact absurd this h
      rw [recMay_abc, h9, Bool.and_false]
    refine c_region rfl ?_
    refine s1 (r_add h92 rfl (wi (by omega) (by omega))) ?_
    refine s1 (r_mvi rfl) ?_
    refine wn (t_n ?_)
    refine ⟨k - 1, by omega, i + 1, by omega, h1, h90, h91, rfl, mm.pk [0] (by decide), ?_⟩
    intro j hj hji
    rcases Nat.lt_or_ge j i with hlt | hge
    · exact hall j hj hlt
    · obtain rfl : j = i := by omega
      simpa using h
  have hi : i = x.es.length := by simp at h; omega
  subst hi
  clear h
  refine c_sreg rfl ?_
  refine s1 (r_asb rfl) ?_
  refine wn ?_
  refine c_ret (ret1 rfl rfl ⟨congrArg Value.bool (?_ : true = recMay x), mm.chg⟩)
  have h9 : x.es.all (fun y => decide (evMay y = 0)) = true := by
    rw [List.all_eq_true]
    intro y hy
    obtain ⟨j, hj, rfl⟩ := List.mem_iff_getElem.1 hy
    exact decide_eq_true (hall j hj hj)
  rw [recMay_abc, h9, hC, hA, hB]; rfl
end Go.Proofs.Ytbcpabfemejlgaa
