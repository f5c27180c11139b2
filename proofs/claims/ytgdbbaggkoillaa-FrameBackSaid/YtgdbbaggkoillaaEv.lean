/- What events, edits and their bytes are, without a program: plain functions. -/
import Derived.Test.YtgdbbaggkoillaaKg
namespace Go.Proofs.Ytgdbbaggkoillaa
open K

/-! ### numbers as bytes -/
def vput (n : Nat) : List UInt8 := if n < 128 then [UInt8.ofNat n] else UInt8.ofNat (n % 128 + 128) :: vput (n / 128)
decreasing_by omega
theorem vput_len (k : Nat) : ∀ n, n < 128 ^ (k + 1) → (vput n).length ≤ k + 1 := by
  induction k with
  | zero => intro n hn; rw [vput, if_pos (by omega)]; simp
  | succ k ih =>
    intro n hn
    rw [vput]
    split
    · simp
    · have := ih (n / 128) (by rw [Nat.div_lt_iff_lt_mul (by omega)]; rw [Nat.pow_succ] at hn; exact hn)
      simp; omega
theorem vput_len10 (n : Nat) (h : n < 2 ^ 64) : (vput n).length ≤ 10 := vput_len 9 n (by omega)
theorem vput_pos (n : Nat) : 0 < (vput n).length := by rw [vput]; split <;> simp
theorem u8_low (x : Nat) (h : x < 128) : .int .u8 (IntKind.u8.wrap x) = u8 (UInt8.ofNat x) := by
  simp [u8, IntKind.wrap, IntKind.bits, IntKind.signed]
theorem u8_any (x : Nat) : .int .u8 (IntKind.u8.wrap x) = u8 (UInt8.ofNat x) := by
  simp [u8, IntKind.wrap, IntKind.bits, IntKind.signed]
theorem u8_int (x : Int) (h : 0 ≤ x) : .int .u8 (IntKind.u8.wrap x) = u8 (UInt8.ofNat x.toNat) := by
  obtain ⟨n, rfl⟩ := Int.eq_ofNat_of_zero_le h
  exact u8_any n
theorem u8_more (x : Nat) : .int .u8 (bitv .or .u8 (IntKind.u8.wrap x) 128) = u8 (UInt8.ofNat (x % 128 + 128)) := by
  have h1 : IntKind.u8.wrap (x : Int) = ((x % 256 : Nat) : Int) := by simp [IntKind.wrap, IntKind.bits, IntKind.signed]
  have key : ∀ y : Fin 256, bitv .or .u8 ((y.val : Nat) : Int) 128 = ((y.val % 128 + 128 : Nat) : Int) := by decide +kernel
  have h2 := key ⟨x % 256, Nat.mod_lt _ (by decide)⟩
  rw [h1, h2]
  simp only [u8, UInt8.toNat_ofNat']
  congr 2
  omega

/-! ### what was seen -/
structure Clk where
  c0 : Int
  c1 : Int
  c2 : Int
  c3 : Int
  c4 : Int
deriving DecidableEq
def Clk.get (c : Clk) : Nat → Int
  | 0 => c.c0 | 1 => c.c1 | 2 => c.c2 | 3 => c.c3 | _ => c.c4
def Clk.set (c : Clk) (i : Nat) (v : Int) : Clk :=
  match i with
  | 0 => { c with c0 := v } | 1 => { c with c1 := v } | 2 => { c with c2 := v } | 3 => { c with c3 := v } | _ => { c with c4 := v }
def clkC (c : Clk) : List Value := [.int .i64 c.c0, .int .i64 c.c1, .int .i64 c.c2, .int .i64 c.c3, .int .i64 c.c4]
theorem nth_clk (c : Clk) (i : Nat) (h : i < 5) : nth (clkC c) i = some (.int .i64 (c.get i)) := by
  match i, h with
  | 0, _ => rfl | 1, _ => rfl | 2, _ => rfl | 3, _ => rfl | 4, _ => rfl
theorem setN_clk (c : Clk) (i : Nat) (h : i < 5) (v : Int) : setN (clkC c) i (.int .i64 v) = clkC (c.set i v) := by
  match i, h with
  | 0, _ => rfl | 1, _ => rfl | 2, _ => rfl | 3, _ => rfl | 4, _ => rfl
theorem Clk.get_set (c : Clk) (i j : Nat) (hi : i < 5) (hj : j < 5) (v : Int) : (c.set i v).get j = if i = j then v else c.get j := by
  match i, hi, j, hj with
  | 0, _, 0, _ => rfl | 0, _, 1, _ => rfl | 0, _, 2, _ => rfl | 0, _, 3, _ => rfl | 0, _, 4, _ => rfl
  | 1, _, 0, _ => rfl | 1, _, 1, _ => rfl | 1, _, 2, _ => rfl | 1, _, 3, _ => rfl | 1, _, 4, _ => rfl
  | 2, _, 0, _ => rfl | 2, _, 1, _ => rfl | 2, _, 2, _ => rfl | 2, _, 3, _ => rfl | 2, _, 4, _ => rfl
  | 3, _, 0, _ => rfl | 3, _, 1, _ => rfl | 3, _, 2, _ => rfl | 3, _, 3, _ => rfl | 3, _, 4, _ => rfl
  | 4, _, 0, _ => rfl | 4, _, 1, _ => rfl | 4, _, 2, _ => rfl | 4, _, 3, _ => rfl | 4, _, 4, _ => rfl
theorem Clk.ext' {a b : Clk} (h : ∀ i, i < 5 → a.get i = b.get i) : a = b := by
  cases a; cases b
  have h0 := h 0 (by decide); have h1 := h 1 (by decide); have h2 := h 2 (by decide); have h3 := h 3 (by decide); have h4 := h 4 (by decide)
  simp only [Clk.get] at h0 h1 h2 h3 h4
  simp [h0, h1, h2, h3, h4]
def clk0 : Clk := ⟨0, 0, 0, 0, 0⟩
def cHas (c : Clk) (r n : Int) : Bool := decide (0 ≤ r) && decide (r < 5) && decide (0 < n) && decide (n ≤ c.get r.toNat)

/-! ### edits and events -/
structure Ed where
  kind : Int
  key : List UInt8
  label : Int
  val : List UInt8
deriving DecidableEq
def edC (x : Ed) : List Value := [.int .i64 x.kind, str x.key, .int .i64 x.label, str x.val]
structure Ev where
  r : Int
  n : Int
  c : Clk
  h : Int
  kind : Int
  key : List UInt8
  label : Int
  val : List UInt8
deriving DecidableEq
def Ev.ed (x : Ev) : Ed := ⟨x.kind, x.key, x.label, x.val⟩
def evC (x : Ev) : List Value := [.int .i64 x.r, .int .i64 x.n, .int .i64 x.c.c0, .int .i64 x.c.c1, .int .i64 x.c.c2, .int .i64 x.c.c3, .int .i64 x.c.c4, .int .i64 x.h, .int .i64 x.kind, str x.key, .int .i64 x.label, str x.val]
theorem nth_evc (x : Ev) (i : Nat) (h : i < 5) : nth (evC x) (2 + i) = some (.int .i64 (x.c.get i)) := by
  match i, h with
  | 0, _ => rfl | 1, _ => rfl | 2, _ => rfl | 3, _ => rfl | 4, _ => rfl

def okByte (b : UInt8) : Bool := decide (97 ≤ b.toNat) && decide (b.toNat ≤ 122)
def keyOk (s : List UInt8) : Bool := decide (1 ≤ s.length) && decide (s.length ≤ 8) && s.all okByte
def tKey (s : List UInt8) : Int := if keyOk s then 0 else 10
def tLabel (n : Int) : Int := if 0 ≤ n ∧ n < 2 then 0 else 11
def tValue (s : List UInt8) : Int := if 1 ≤ s.length ∧ s.length ≤ 12 then 0 else 12
def tBare (x : Ed) : Int := if x.label ≠ 0 then 11 else if x.val ≠ [] then 12 else 0
def tEdit (x : Ed) : Int := if x.kind < 1 ∨ 5 < x.kind then 1 else if tKey x.key ≠ 0 then tKey x.key else if x.kind ≤ 2 then tBare x else if tLabel x.label ≠ 0 then tLabel x.label else tValue x.val
def Clk.all (c : Clk) (p : Int → Bool) : Bool := p c.c0 && p c.c1 && p c.c2 && p c.c3 && p c.c4
theorem Clk.all_iff (c : Clk) (p : Int → Bool) : c.all p = true ↔ ∀ i, i < 5 → p (c.get i) = true := by
  simp only [Clk.all, Bool.and_eq_true]
  constructor
  · rintro ⟨⟨⟨⟨h0, h1⟩, h2⟩, h3⟩, h4⟩ i hi
    match i, hi with
    | 0, _ => exact h0 | 1, _ => exact h1 | 2, _ => exact h2 | 3, _ => exact h3 | 4, _ => exact h4
  · intro h
    exact ⟨⟨⟨⟨h 0 (by decide), h 1 (by decide)⟩, h 2 (by decide)⟩, h 3 (by decide)⟩, h 4 (by decide)⟩
def inEv (n : Int) : Bool := decide (0 ≤ n) && decide (n ≤ 1048576)
/-- What may be of an event but its edit. -/
def evHead (x : Ev) : Bool := decide (0 ≤ x.r) && decide (x.r < 5) && decide (1 ≤ x.n) && decide (x.n ≤ 1048576) && decide (x.c.get x.r.toNat = x.n - 1) && decide (1 ≤ x.h) && decide (x.h ≤ 16777216) && x.c.all inEv
def evMay (x : Ev) : Int := if evHead x then tEdit x.ed else 1

def putE (x : Ev) : List UInt8 :=
  [UInt8.ofNat x.kind.toNat, UInt8.ofNat x.r.toNat] ++ vput x.n.toNat ++ ((List.range 5).filter (fun i : Nat => decide ((i : Int) ≠ x.r))).flatMap (fun i : Nat => vput (x.c.get i).toNat) ++ vput x.h.toNat ++ UInt8.ofNat x.key.length :: x.key ++
    (if 2 < x.kind then UInt8.ofNat x.label.toNat :: UInt8.ofNat x.val.length :: x.val else [])
end Go.Proofs.Ytgdbbaggkoillaa
