/- Two events compared. -/
import Derived.Test.YtgdbbaggkoillaaKf
import Derived.Test.YtgdbbaggkoillaaKm
import Derived.Test.YtgdbbaggkoillaaEv
import Derived.Test.YtgdbbaggkoillaaLe
import Derived.KernelRfl
namespace Go.Proofs.Ytgdbbaggkoillaa
open K
set_option maxRecDepth 100000
theorem ev_guard : Try.prog.eqGuardType Try.prog.depth 25 = false := by kernel_rfl
theorem ev_key : Try.prog.keyTypeAt 3 25 = true := by kernel_rfl
def evL (x : Ev) : List Lit := [.int .i64 x.r, .int .i64 x.n, .int .i64 x.c.c0, .int .i64 x.c.c1, .int .i64 x.c.c2, .int .i64 x.c.c3, .int .i64 x.c.c4, .int .i64 x.h, .int .i64 x.kind, .string x.key, .int .i64 x.label, .string x.val]
theorem ev_formed (x : Ev) : (Value.agg (evC x).toArray).formed Try.prog 25 = true := by kernel_rfl
structure EvW (x : Ev) : Prop where
  r : i64 x.r
  n : i64 x.n
  c0 : i64 x.c.c0
  c1 : i64 x.c.c1
  c2 : i64 x.c.c2
  c3 : i64 x.c.c3
  c4 : i64 x.c.c4
  h : i64 x.h
  kind : i64 x.kind
  key : x.key.length ≤ maxLen
  label : i64 x.label
  val : x.val.length ≤ maxLen
theorem wf_i64 {n : Int} (h : i64 n) : (Lit.int .i64 n).wf = true := by
  have h1 := h.1; have h2 := h.2
  simp [Lit.wf, IntKind.min, IntKind.max, IntKind.signed, IntKind.bits]
  omega
theorem lit_int {D : Nat} {n : Int} (h : i64 n) : Try.prog.keyLits (D + 1) 3 [.int .i64 n] = some [.int .i64 n] := by
  unfold Program.keyLits
  rw [Try.underlying3]
  exact if_pos ⟨rfl, wf_i64 h⟩
theorem lit_str {D : Nat} {l : List UInt8} (h : l.length ≤ maxLen) : Try.prog.keyLits (D + 1) 9 [str l] = some [.string l] := by
  unfold Program.keyLits
  rw [Try.underlying9]
  exact if_pos (show (⟨l.toArray⟩ : ByteArray).size ≤ maxLen by simpa [ByteArray.size] using h)
theorem lit_clk {D : Nat} {c : Clk} (h0 : i64 c.c0) (h1 : i64 c.c1) (h2 : i64 c.c2) (h3 : i64 c.c3) (h4 : i64 c.c4) : Try.prog.keyLits (D + 2) 23 (clkC c) = some [.int .i64 c.c0, .int .i64 c.c1, .int .i64 c.c2, .int .i64 c.c3, .int .i64 c.c4] := by
  unfold Program.keyLits
  rw [Try.underlying23]
  simp only [cells3, cells23]
  rw [if_pos (show (clkC c).length = 5 from rfl)]
  simp [List.range, List.range.loop, clkC, lit_int h0, lit_int h1, lit_int h2, lit_int h3, lit_int h4]
theorem ev_lits (x : Ev) (h : EvW x) : Try.prog.keyLits 4 25 (evC x) = some (evL x) := by
  unfold Program.keyLits
  rw [Try.underlying25]
  simp only [cells3, cells9, cells23, cells25]
  rw [if_pos ⟨show (evC x).length = 12 from rfl, by kernel_rfl⟩]
  have e := lit_clk (D := 1) h.c0 h.c1 h.c2 h.c3 h.c4
  unfold clkC at e
  simp [cells3, cells9, cells23, evC, lit_int h.r, lit_int h.n, e, lit_int h.h, lit_int h.kind, lit_str h.key, lit_int h.label, lit_str h.val, evL]
theorem ev_iff (x y : Ev) : evL x = evL y ↔ x = y := by
  constructor
  · intro h
    obtain ⟨r, n, ⟨c0, c1, c2, c3, c4⟩, hh, k, key, l, v⟩ := x
    obtain ⟨r', n', ⟨c0', c1', c2', c3', c4'⟩, hh', k', key', l', v'⟩ := y
    simp [evL] at h
    simp [h]
  · intro h; rw [h]
theorem ev_eq (x y : Ev) (hx : EvW x) (hy : EvW y) (w : World) : (Op.equalIn 10000 25 (.agg (evC x).toArray) (.agg (evC y).toArray)).run Try.prog w = .ok (decide (x = y)) w :=
  run_eqa ev_key (by decide) (ev_formed x) (ev_formed y) (ev_lits x hx) (ev_lits y hy) (ev_iff x y)
end Go.Proofs.Ytgdbbaggkoillaa
