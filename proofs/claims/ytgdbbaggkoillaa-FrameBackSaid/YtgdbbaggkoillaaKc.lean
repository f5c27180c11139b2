/- The walk's own small logic, third part: what each operation does, an equation each. -/
import Derived.Test.YtgdbbaggkoillaaKb
import Derived.WalkKit
import Derived.Lib.AppendStr
namespace Go.Proofs.Ytgdbbaggkoillaa
namespace K

/-! ### Facts on a program's tables, found by instance -/
class TInt (P : Program) (t : Nat) (k : outParam IntKind) : Prop where
  h : P.underlying t = some (.int k)
class TStr (P : Program) (t : Nat) : Prop where
  h : P.underlying t = some .string
class TSl (P : Program) (t : Nat) (e : outParam Nat) : Prop where
  h : P.underlying t = some (.slice e)
class TArr (P : Program) (t : Nat) (n e : outParam Nat) : Prop where
  h : P.underlying t = some (.array n e)
/-- A type of one cell. -/
class Sc (P : Program) (t : Nat) : Prop where
  h : ∃ d, P.underlying t = some d ∧ (match d with | .struct _ | .array _ _ => false | _ => true) = true
  s : (P.info? t).map (·.size) = some 1
/-- A struct or an array, of n cells. -/
class Ag (P : Program) (t : Nat) (n : outParam Nat) : Prop where
  h : ∃ d, P.underlying t = some d ∧ (match d with | .struct _ | .array _ _ => true | _ => false) = true
  s : (P.info? t).map (·.size) = some n
/-- An element's type: its cells, its bytes, its zero. -/
class El (P : Program) (t : Nat) (sz bytes : outParam Nat) (z : outParam (List Value)) : Prop where
  h : ∃ i zv, P.info? t = some i ∧ i.size = sz ∧ i.bytes = bytes ∧ i.zero = some zv ∧ zv.cells = z.toArray ∧ z.length = sz ∧ 0 < sz
/-- Field f of struct type t lies at o. -/
class Fd (P : Program) (t f : Nat) (o ft : outParam Nat) : Prop where
  h : ∃ fs fd i, P.underlying t = some (.struct fs) ∧ fs[f]? = some fd ∧ fd.offset = o ∧ fd.type = ft ∧ P.info? fd.type = some i ∧ i.size ≠ 0
/-- A function that can be entered. -/
class Fnc (P : Program) (f : Nat) (fn : outParam Func) : Prop where
  h : P.funcs[f]? = some fn
  n : (fn.name == "runtime.NumGoroutine") = false
  b : fn.body.isNone = false

def str (l : List UInt8) : Value := .string ⟨l.toArray⟩
def u8 (b : UInt8) : Value := .int .u8 b.toNat
def u8s (l : List UInt8) : List Value := l.map u8
theorem u8s_length (l : List UInt8) : (u8s l).length = l.length := List.length_map ..
theorem u8s_append (l m : List UInt8) : u8s (l ++ m) = u8s l ++ u8s m := List.map_append ..

section
variable {P : Program} {e : Env} {w : World} {d : Option Nat} {ty : Nat} {pos : String} {af : Array Edge} {g : Option (Nat × Bool)}

theorem r_mv {x : Operand} {v : Value} (hx : ev e x = v) : (execOp (ev e) ⟨d, .move x, ty, pos, af, g⟩).run P w = .ok (.value v) w := by subst hx; rfl
theorem r_as {x : Operand} {v : Value} (hx : ev e x = v) : (execOp (ev e) ⟨d, .assign x, ty, pos, af, g⟩).run P w = .ok (.value v) w := by subst hx; rfl
theorem r_mvi {x : Operand} {k : IntKind} {a : Int} (hx : ev e x = .int k a) : (execOp (ev e) ⟨d, .move x, ty, pos, af, g⟩).run P w = .ok (.value (.int k a)) w := r_mv hx
theorem r_asi {x : Operand} {k : IntKind} {a : Int} (hx : ev e x = .int k a) : (execOp (ev e) ⟨d, .assign x, ty, pos, af, g⟩).run P w = .ok (.value (.int k a)) w := r_as hx
theorem r_mvb {x : Operand} {b : Bool} (hx : ev e x = .bool b) : (execOp (ev e) ⟨d, .move x, ty, pos, af, g⟩).run P w = .ok (.value (.bool b)) w := r_mv hx
theorem r_asb {x : Operand} {b : Bool} (hx : ev e x = .bool b) : (execOp (ev e) ⟨d, .assign x, ty, pos, af, g⟩).run P w = .ok (.value (.bool b)) w := r_as hx
theorem r_mvs {x : Operand} {a : Option Addr} {n c : Nat} (hx : ev e x = .slice a n c) : (execOp (ev e) ⟨d, .move x, ty, pos, af, g⟩).run P w = .ok (.value (.slice a n c)) w := r_mv hx
theorem r_ass {x : Operand} {a : Option Addr} {n c : Nat} (hx : ev e x = .slice a n c) : (execOp (ev e) ⟨d, .assign x, ty, pos, af, g⟩).run P w = .ok (.value (.slice a n c)) w := r_as hx
theorem r_mvp {x : Operand} {a : Option Addr} (hx : ev e x = .pointer a) : (execOp (ev e) ⟨d, .move x, ty, pos, af, g⟩).run P w = .ok (.value (.pointer a)) w := r_mv hx
theorem r_asp {x : Operand} {a : Option Addr} (hx : ev e x = .pointer a) : (execOp (ev e) ⟨d, .assign x, ty, pos, af, g⟩).run P w = .ok (.value (.pointer a)) w := r_as hx
theorem r_mvt {x : Operand} {l : List UInt8} (hx : ev e x = str l) : (execOp (ev e) ⟨d, .move x, ty, pos, af, g⟩).run P w = .ok (.value (str l)) w := r_mv hx
theorem r_ast {x : Operand} {l : List UInt8} (hx : ev e x = str l) : (execOp (ev e) ⟨d, .assign x, ty, pos, af, g⟩).run P w = .ok (.value (str l)) w := r_as hx
theorem r_mvf {x : Operand} {fn : Fn} {fs cs : Array Value} (hx : ev e x = .func fn fs cs) : (execOp (ev e) ⟨d, .move x, ty, pos, af, g⟩).run P w = .ok (.value (.func fn fs cs)) w := r_mv hx
theorem r_asf {x : Operand} {fn : Fn} {fs cs : Array Value} (hx : ev e x = .func fn fs cs) : (execOp (ev e) ⟨d, .assign x, ty, pos, af, g⟩).run P w = .ok (.value (.func fn fs cs)) w := r_as hx
theorem r_mvg {x : Operand} {cs : List Value} (hx : ev e x = .agg cs.toArray) : (execOp (ev e) ⟨d, .move x, ty, pos, af, g⟩).run P w = .ok (.value (.agg cs.toArray)) w := r_mv hx
theorem r_asg {x : Operand} {cs : List Value} (hx : ev e x = .agg cs.toArray) : (execOp (ev e) ⟨d, .assign x, ty, pos, af, g⟩).run P w = .ok (.value (.agg cs.toArray)) w := r_as hx
theorem r_mvu {x : Operand} {vs : Array Value} (hx : ev e x = .tuple vs) : (execOp (ev e) ⟨d, .move x, ty, pos, af, g⟩).run P w = .ok (.value (.tuple vs)) w := r_mv hx
theorem r_asu {x : Operand} {vs : Array Value} (hx : ev e x = .tuple vs) : (execOp (ev e) ⟨d, .assign x, ty, pos, af, g⟩).run P w = .ok (.value (.tuple vs)) w := r_as hx
theorem r_mvm {x : Operand} {r : Option Nat} (hx : ev e x = .map r) : (execOp (ev e) ⟨d, .move x, ty, pos, af, g⟩).run P w = .ok (.value (.map r)) w := r_mv hx
theorem r_asm {x : Operand} {r : Option Nat} (hx : ev e x = .map r) : (execOp (ev e) ⟨d, .assign x, ty, pos, af, g⟩).run P w = .ok (.value (.map r)) w := r_as hx
theorem r_pk {c x y : Operand} {t : Bool} {v u : Value} (hc : ev e c = .bool t) (hx : ev e x = v) (hy : ev e y = u) : (execOp (ev e) ⟨d, .pick c x y, ty, pos, af, g⟩).run P w = .ok (.value (bif t then v else u)) w := by
  subst hx; subst hy
  cases t <;> simp [execOp, hc, asBool]
def sel (c : Bool) (v : Value) : Value := bif c then v else undef
theorem sel_t {c : Bool} {v : Value} (h : c = true) : sel c v = v := by subst h; rfl
/-- a || b -/
theorem r_or {c y : Operand} {t u : Bool} (hc : ev e c = .bool t) (hy : ev e y = sel (!t) (.bool u)) : (execOp (ev e) ⟨d, .pick c (.const (.bool true)) y, ty, pos, af, g⟩).run P w = .ok (.value (.bool (t || u))) w := by
  have h1 : ev e (.const (.bool true)) = .bool true := rfl
  cases t <;> simp [execOp, hc, asBool, hy, sel, h1]
/-- a && b -/
theorem r_and {c y : Operand} {t u : Bool} (hc : ev e c = .bool t) (hy : ev e y = sel t (.bool u)) : (execOp (ev e) ⟨d, .pick c y (.const (.bool false)), ty, pos, af, g⟩).run P w = .ok (.value (.bool (t && u))) w := by
  have h1 : ev e (.const (.bool false)) = .bool false := rfl
  cases t <;> simp [execOp, hc, asBool, hy, sel, h1]

/-! integers -/
section
variable {t t' : Nat} {x y : Operand} {k : IntKind} {a b c : Int}
theorem r_add (hx : ev e x = .int k a) (hy : ev e y = .int k b) (hw : k.wrap (a + b) = c) : (execOp (ev e) ⟨d, .binOp .add t x y t', ty, pos, af, g⟩).run P w = .ok (.value (.int k c)) w := by
  subst hw; simp [execOp, hx, hy, eqGuard, binOp, Op.intArith]
theorem r_sub (hx : ev e x = .int k a) (hy : ev e y = .int k b) (hw : k.wrap (a - b) = c) : (execOp (ev e) ⟨d, .binOp .sub t x y t', ty, pos, af, g⟩).run P w = .ok (.value (.int k c)) w := by
  subst hw; simp [execOp, hx, hy, eqGuard, binOp, Op.intArith]
theorem r_mul (hx : ev e x = .int k a) (hy : ev e y = .int k b) (hw : k.wrap (a * b) = c) : (execOp (ev e) ⟨d, .binOp .mul t x y t', ty, pos, af, g⟩).run P w = .ok (.value (.int k c)) w := by
  subst hw; simp [execOp, hx, hy, eqGuard, binOp, Op.intArith]
theorem r_quo (hx : ev e x = .int k a) (hy : ev e y = .int k b) (hb : b ≠ 0) (hw : k.wrap (a.tdiv b) = c) : (execOp (ev e) ⟨d, .binOp .quo t x y t', ty, pos, af, g⟩).run P w = .ok (.value (.int k c)) w := by
  subst hw; simp [execOp, hx, hy, eqGuard, binOp, Op.intDiv, hb]
theorem r_rem (hx : ev e x = .int k a) (hy : ev e y = .int k b) (hb : b ≠ 0) (hw : a.tmod b = c) : (execOp (ev e) ⟨d, .binOp .rem t x y t', ty, pos, af, g⟩).run P w = .ok (.value (.int k c)) w := by
  subst hw; simp [execOp, hx, hy, eqGuard, binOp, Op.intDiv, hb]
theorem r_eq (hx : ev e x = .int k a) (hy : ev e y = .int k b) : (execOp (ev e) ⟨d, .binOp .eql t x y t', ty, pos, af, g⟩).run P w = .ok (.value (.bool (decide (a = b)))) w := by
  simp [execOp, hx, hy, eqGuard, binOp, Op.intCmp]
  by_cases h : a = b <;> simp [h]
theorem r_ne (hx : ev e x = .int k a) (hy : ev e y = .int k b) : (execOp (ev e) ⟨d, .binOp .neq t x y t', ty, pos, af, g⟩).run P w = .ok (.value (.bool (decide (a ≠ b)))) w := by
  simp [execOp, hx, hy, eqGuard, binOp, Op.intCmp, bne]
  by_cases h : a = b <;> simp [h]
theorem r_lt (hx : ev e x = .int k a) (hy : ev e y = .int k b) : (execOp (ev e) ⟨d, .binOp .lss t x y t', ty, pos, af, g⟩).run P w = .ok (.value (.bool (decide (a < b)))) w := by
  simp [execOp, hx, hy, eqGuard, binOp, Op.intCmp]
theorem r_le (hx : ev e x = .int k a) (hy : ev e y = .int k b) : (execOp (ev e) ⟨d, .binOp .leq t x y t', ty, pos, af, g⟩).run P w = .ok (.value (.bool (decide (a ≤ b)))) w := by
  simp [execOp, hx, hy, eqGuard, binOp, Op.intCmp]
theorem r_gt (hx : ev e x = .int k a) (hy : ev e y = .int k b) : (execOp (ev e) ⟨d, .binOp .gtr t x y t', ty, pos, af, g⟩).run P w = .ok (.value (.bool (decide (b < a)))) w := by
  simp [execOp, hx, hy, eqGuard, binOp, Op.intCmp]
theorem r_ge (hx : ev e x = .int k a) (hy : ev e y = .int k b) : (execOp (ev e) ⟨d, .binOp .geq t x y t', ty, pos, af, g⟩).run P w = .ok (.value (.bool (decide (b ≤ a)))) w := by
  simp [execOp, hx, hy, eqGuard, binOp, Op.intCmp]
def bitv (op : BinOp) (k : IntKind) (a b : Int) : Int :=
  match op with
  | .and => k.wrap (BitVec.ofInt k.bits a &&& BitVec.ofInt k.bits b).toNat
  | .or => k.wrap (BitVec.ofInt k.bits a ||| BitVec.ofInt k.bits b).toNat
  | .xor => k.wrap (BitVec.ofInt k.bits a ^^^ BitVec.ofInt k.bits b).toNat
  | _ => k.wrap (BitVec.ofInt k.bits a &&& ~~~ BitVec.ofInt k.bits b).toNat
theorem r_band (hx : ev e x = .int k a) (hy : ev e y = .int k b) (hw : bitv .and k a b = c) : (execOp (ev e) ⟨d, .binOp .and t x y t', ty, pos, af, g⟩).run P w = .ok (.value (.int k c)) w := by
  subst hw; simp [execOp, hx, hy, eqGuard, binOp, Op.intBits, bitv]
theorem r_bor (hx : ev e x = .int k a) (hy : ev e y = .int k b) (hw : bitv .or k a b = c) : (execOp (ev e) ⟨d, .binOp .or t x y t', ty, pos, af, g⟩).run P w = .ok (.value (.int k c)) w := by
  subst hw; simp [execOp, hx, hy, eqGuard, binOp, Op.intBits, bitv]
theorem r_bxor (hx : ev e x = .int k a) (hy : ev e y = .int k b) (hw : bitv .xor k a b = c) : (execOp (ev e) ⟨d, .binOp .xor t x y t', ty, pos, af, g⟩).run P w = .ok (.value (.int k c)) w := by
  subst hw; simp [execOp, hx, hy, eqGuard, binOp, Op.intBits, bitv]
theorem r_bnot (hx : ev e x = .int k a) (hy : ev e y = .int k b) (hw : bitv .andNot k a b = c) : (execOp (ev e) ⟨d, .binOp .andNot t x y t', ty, pos, af, g⟩).run P w = .ok (.value (.int k c)) w := by
  subst hw; simp [execOp, hx, hy, eqGuard, binOp, Op.intBits, bitv]
theorem r_shl {k' : IntKind} (hx : ev e x = .int k a) (hy : ev e y = .int k' b) (hb : 0 ≤ b) (hw : k.wrap (a * 2 ^ (min b.toNat k.bits)) = c) : (execOp (ev e) ⟨d, .binOp .shl t x y t', ty, pos, af, g⟩).run P w = .ok (.value (.int k c)) w := by
  subst hw
  have : ¬ b < 0 := by omega
  simp [execOp, hx, hy, eqGuard, binOp, Op.shift, this]
theorem r_shr {k' : IntKind} (hx : ev e x = .int k a) (hy : ev e y = .int k' b) (hb : 0 ≤ b) (hw : a.fdiv (2 ^ (min b.toNat k.bits)) = c) : (execOp (ev e) ⟨d, .binOp .shr t x y t', ty, pos, af, g⟩).run P w = .ok (.value (.int k c)) w := by
  subst hw
  have : ¬ b < 0 := by omega
  simp [execOp, hx, hy, eqGuard, binOp, Op.shift, this]
theorem r_not {b : Bool} (hx : ev e x = .bool b) : (execOp (ev e) ⟨d, .unOp .not t x, ty, pos, af, g⟩).run P w = .ok (.value (.bool (!b))) w := by
  simp [execOp, hx, Op.unary]
theorem r_neg (hx : ev e x = .int k a) (hw : k.wrap (-a) = c) : (execOp (ev e) ⟨d, .unOp .neg t x, ty, pos, af, g⟩).run P w = .ok (.value (.int k c)) w := by
  subst hw; simp [execOp, hx, Op.unary, Op.intArith]
theorem r_cv {k' : IntKind} [h : TInt P t' k'] [h' : TInt P t k] (hx : ev e x = .int k a) (hw : k'.wrap a = c) : (execOp (ev e) ⟨d, .convert t t' x, ty, pos, af, g⟩).run P w = .ok (.value (.int k' c)) w := by
  subst hw; simp [execOp, hx, convert, run_underlying h.h, run_underlying h'.h, Conv.intToInt]
theorem r_beq {b b' : Bool} (hp : P.underlying t = some .bool) (hx : ev e x = .bool b) (hy : ev e y = .bool b') : (execOp (ev e) ⟨d, .binOp .eql t x y t', ty, pos, af, g⟩).run P w = .ok (.value (.bool (b == b'))) w := by
  have h1 := run_equalIn_bool' (P := P) w 9999 t b b' hp
  simp only [execOp, hx, hy, eqGuard, binOp, Op.equal, Op.maxDepth]
  simp [h1]
theorem r_seq {l m : List UInt8} (hx : ev e x = str l) (hy : ev e y = str m) : (execOp (ev e) ⟨d, .binOp .eql t x y t', ty, pos, af, g⟩).run P w = .ok (.value (.bool (decide (l = m)))) w := by
  simp [execOp, hx, hy, eqGuard, str]
  by_cases h : l = m <;> simp [h, binOp, Op.stringOp]
theorem r_sne {l m : List UInt8} (hx : ev e x = str l) (hy : ev e y = str m) : (execOp (ev e) ⟨d, .binOp .neq t x y t', ty, pos, af, g⟩).run P w = .ok (.value (.bool (decide (l ≠ m)))) w := by
  simp [execOp, hx, hy, eqGuard, str]
  by_cases h : l = m <;> simp [h, binOp, Op.stringOp]
end

/-! calls' operands, tuples -/
theorem r_ext {x : Operand} {i : Nat} {vs : Array Value} {v : Value} (hx : ev e x = .tuple vs) (hv : vs[i]? = some v) : (execOp (ev e) ⟨d, .extract x i, ty, pos, af, g⟩).run P w = .ok (.value v) w := by
  simp [execOp, hx, Instr.extract, hv]
theorem r_exti {x : Operand} {i : Nat} {vs : Array Value} {k : IntKind} {a : Int} (hx : ev e x = .tuple vs) (hv : vs[i]? = some (.int k a)) : (execOp (ev e) ⟨d, .extract x i, ty, pos, af, g⟩).run P w = .ok (.value (.int k a)) w := r_ext hx hv
theorem r_extb {x : Operand} {i : Nat} {vs : Array Value} {b : Bool} (hx : ev e x = .tuple vs) (hv : vs[i]? = some (.bool b)) : (execOp (ev e) ⟨d, .extract x i, ty, pos, af, g⟩).run P w = .ok (.value (.bool b)) w := r_ext hx hv
theorem r_exts {x : Operand} {i : Nat} {vs : Array Value} {a : Option Addr} {n c : Nat} (hx : ev e x = .tuple vs) (hv : vs[i]? = some (.slice a n c)) : (execOp (ev e) ⟨d, .extract x i, ty, pos, af, g⟩).run P w = .ok (.value (.slice a n c)) w := r_ext hx hv
theorem r_extp {x : Operand} {i : Nat} {vs : Array Value} {a : Option Addr} (hx : ev e x = .tuple vs) (hv : vs[i]? = some (.pointer a)) : (execOp (ev e) ⟨d, .extract x i, ty, pos, af, g⟩).run P w = .ok (.value (.pointer a)) w := r_ext hx hv
theorem r_extt {x : Operand} {i : Nat} {vs : Array Value} {l : List UInt8} (hx : ev e x = .tuple vs) (hv : vs[i]? = some (str l)) : (execOp (ev e) ⟨d, .extract x i, ty, pos, af, g⟩).run P w = .ok (.value (str l)) w := r_ext hx hv
theorem r_extg {x : Operand} {i : Nat} {vs : Array Value} {cs : List Value} (hx : ev e x = .tuple vs) (hv : vs[i]? = some (.agg cs.toArray)) : (execOp (ev e) ⟨d, .extract x i, ty, pos, af, g⟩).run P w = .ok (.value (.agg cs.toArray)) w := r_ext hx hv
theorem r_nil {x : Operand} {a : Addr} (hx : ev e x = .pointer (some a)) : (execOp (ev e) ⟨d, .nilCheck x, ty, pos, af, g⟩).run P w = .ok (.value (.pointer (some a))) w := by
  simp [execOp, hx]
theorem r_fn0 {fn : Fn} : (execOp (ev e) ⟨d, .makeFunc fn #[] #[], ty, pos, af, g⟩).run P w = .ok (.value (.func fn #[] #[])) w := by simp [execOp, Instr.makeFunc]
theorem r_fn1 {fn : Fn} {x : Operand} {v : Value} (hx : ev e x = v) : (execOp (ev e) ⟨d, .makeFunc fn #[] #[x], ty, pos, af, g⟩).run P w = .ok (.value (.func fn #[] #[v])) w := by
  subst hx; simp [execOp, Instr.makeFunc]
theorem r_fn2 {fn : Fn} {x y : Operand} {v u : Value} (hx : ev e x = v) (hy : ev e y = u) : (execOp (ev e) ⟨d, .makeFunc fn #[] #[x, y], ty, pos, af, g⟩).run P w = .ok (.value (.func fn #[] #[v, u])) w := by
  subst hx; subst hy; simp [execOp, Instr.makeFunc]
theorem r_fn3 {fn : Fn} {x y z : Operand} {v u t : Value} (hx : ev e x = v) (hy : ev e y = u) (hz : ev e z = t) : (execOp (ev e) ⟨d, .makeFunc fn #[] #[x, y, z], ty, pos, af, g⟩).run P w = .ok (.value (.func fn #[] #[v, u, t])) w := by
  subst hx; subst hy; subst hz; simp [execOp, Instr.makeFunc]

/-! builtins on what is there -/
theorem x_builtin {b : Builtin} {xs : Array Operand} {ats : Array Nat} : execOp (ev e) ⟨d, .call ⟨.builtin b, xs, ats⟩, ty, pos, af, g⟩ = builtin b ats ty (xs.map fun | .const _ => true | _ => false) (xs.map (ev e)) := rfl
theorem r_len {x : Operand} {t el : Nat} {a : Option Addr} {n c : Nat} [h : TSl P t el] (hx : ev e x = .slice a n c) : (execOp (ev e) ⟨d, .call ⟨.builtin .len, #[x], #[t]⟩, ty, pos, af, g⟩).run P w = .ok (.value (.int .i64 n)) w := by
  have e1 : (#[x] : Array Operand).map (ev e) = #[.slice a n c] := by simp [hx]
  rw [x_builtin, e1]
  unfold builtin
  simp [Builtin.len_, run_underlying h.h, goInt]
theorem r_slen {x : Operand} {t : Nat} {l : List UInt8} [h : TStr P t] (hx : ev e x = str l) : (execOp (ev e) ⟨d, .call ⟨.builtin .len, #[x], #[t]⟩, ty, pos, af, g⟩).run P w = .ok (.value (.int .i64 l.length)) w := by
  have e1 : (#[x] : Array Operand).map (ev e) = #[str l] := by simp [hx]
  rw [x_builtin, e1]
  have h1 := run_len_string (P := P) w t ty ⟨l.toArray⟩ h.h
  unfold builtin str
  simp only [Sem.run_bind, h1, Result.andThen_ok, Sem.run_pure]
  rfl
end

end K
end Go.Proofs.Ytgdbbaggkoillaa
