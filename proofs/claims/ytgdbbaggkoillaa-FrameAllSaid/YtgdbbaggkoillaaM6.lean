/- The sum, plain: bit by bit, byte by byte; a burst of at most 32 bits never goes unseen. -/
import Derived.Test.YtgdbbaggkoillaaM5
import Derived.Test.YtgdbbaggkoillaaM1
import Derived.Test.YtgdbbaggkoillaaRows
import Derived.ProofKit
import Derived.SizedLaws
import Derived.KernelRfl
namespace Go.Proofs.Ytgdbbaggkoillaa
open K

def poly : BitVec 32 := 0xEDB88320#32
/-- One bit's step. -/
def crcM (r : BitVec 32) : BitVec 32 := (r >>> 1) ^^^ (poly &&& -(r &&& 1#32))
def crcIt : Nat → BitVec 32 → BitVec 32
  | 0, r => r
  | n + 1, r => crcM (crcIt n r)
def crcStep (r : BitVec 32) (c : UInt8) : BitVec 32 := crcIt 8 (r ^^^ c.toBitVec.setWidth 32)
def crcReg (r : BitVec 32) (l : List UInt8) : BitVec 32 := l.foldl crcStep r
def crcSum (l : List UInt8) : BitVec 32 := crcReg (BitVec.allOnes 32) l ^^^ BitVec.allOnes 32
def four (s : BitVec 32) : List UInt8 := [UInt8.ofNat s.toNat, UInt8.ofNat (s.toNat / 2 ^ 8), UInt8.ofNat (s.toNat / 2 ^ 16), UInt8.ofNat (s.toNat / 2 ^ 24)]
def sealL (b : List UInt8) : List UInt8 := b ++ four (crcSum b)
/-- What is sealed, opened: none if the sum is not right. -/
def openL (b : List UInt8) : Option (List UInt8) := if b.length < 4 then none else if four (crcSum (b.take (b.length - 4))) = b.drop (b.length - 4) then some (b.take (b.length - 4)) else none
theorem four_length (s : BitVec 32) : (four s).length = 4 := rfl
theorem sealL_length (b : List UInt8) : (sealL b).length = b.length + 4 := by simp [sealL, four_length]
theorem openL_seal (b : List UInt8) : openL (sealL b) = some b := by
  have h := sealL_length b
  unfold openL
  rw [if_neg (by omega)]
  have h1 : (sealL b).length - 4 = b.length := by omega
  rw [h1]
  have h2 : (sealL b).take b.length = b := by simp [sealL]
  have h3 : (sealL b).drop b.length = four (crcSum b) := by simp [sealL]
  rw [h2, h3, if_pos rfl]
theorem openL_some {b l : List UInt8} (h : openL b = some l) : b = sealL l := by
  unfold openL at h
  split at h
  · cases h
  · split at h
    · rename_i h1
      injection h with h
      subst h
      unfold sealL
      rw [h1, List.take_append_drop]
    · cases h

/-! ### linear -/
theorem crcM_if (r : BitVec 32) : crcM r = if r.getLsbD 0 then (r >>> 1) ^^^ poly else r >>> 1 := by
  unfold crcM
  have h : r &&& 1#32 = if r.getLsbD 0 then 1#32 else 0#32 := by
    apply BitVec.eq_of_getLsbD_eq
    intro i hi
    rw [BitVec.getLsbD_and]
    rcases Nat.eq_zero_or_pos i with rfl | hp
    · cases r.getLsbD 0 <;> simp
    · have : (1#32).getLsbD i = false := by simp [BitVec.getLsbD_one]; omega
      rw [this, Bool.and_false]
      split
      · exact this.symm
      · simp
  rw [h]
  cases r.getLsbD 0
  · simp
  · have : -(1#32) = BitVec.allOnes 32 := by decide
    simp only [if_true, this]
    rw [BitVec.and_allOnes]
theorem crcM_xor (r s : BitVec 32) : crcM (r ^^^ s) = crcM r ^^^ crcM s := by
  rw [crcM_if, crcM_if, crcM_if, BitVec.getLsbD_xor, BitVec.ushiftRight_xor_distrib]
  cases r.getLsbD 0 <;> cases s.getLsbD 0 <;> simp
  · rw [BitVec.xor_assoc]
  · rw [BitVec.xor_assoc, BitVec.xor_comm (s >>> 1) poly, ← BitVec.xor_assoc]
  · rw [BitVec.xor_assoc (r >>> 1), ← BitVec.xor_assoc poly, BitVec.xor_comm poly (s >>> 1), BitVec.xor_assoc (s >>> 1), BitVec.xor_self, BitVec.xor_zero]
theorem crcM_zero : crcM 0#32 = 0#32 := by decide
theorem crcM_inj0 {r : BitVec 32} (h : crcM r = 0#32) : r = 0#32 := by
  rw [crcM_if] at h
  cases h0 : r.getLsbD 0 with
  | false =>
    rw [h0] at h
    simp only [Bool.false_eq_true, if_false] at h
    apply BitVec.eq_of_getLsbD_eq
    intro i hi
    rcases Nat.eq_zero_or_pos i with rfl | hp
    · rw [h0]; simp
    · have h1 := congrArg (fun x => BitVec.getLsbD x (i - 1)) h
      simp only [BitVec.getLsbD_ushiftRight] at h1
      rw [show 1 + (i - 1) = i from by omega] at h1
      rw [h1]; simp
  | true =>
    rw [h0] at h
    simp only [if_true] at h
    have h1 := congrArg (fun x => BitVec.getLsbD x 31) h
    simp only [BitVec.getLsbD_xor, BitVec.getLsbD_ushiftRight] at h1
    rw [BitVec.getLsbD_of_ge r (1 + 31) (by decide)] at h1
    have : poly.getLsbD 31 = true := by decide
    rw [this] at h1
    simp at h1
theorem crcIt_xor (r s : BitVec 32) : ∀ n, crcIt n (r ^^^ s) = crcIt n r ^^^ crcIt n s
  | 0 => rfl
  | n + 1 => by rw [crcIt, crcIt_xor r s n, crcM_xor]; rfl
theorem crcIt_zero : ∀ n, crcIt n 0#32 = 0#32
  | 0 => rfl
  | n + 1 => by rw [crcIt, crcIt_zero n]; exact crcM_zero
theorem crcIt_inj0 {r : BitVec 32} : ∀ n, crcIt n r = 0#32 → r = 0#32
  | 0, h => h
  | n + 1, h => crcIt_inj0 n (crcM_inj0 h)
theorem crcIt_add (r : BitVec 32) (m : Nat) : ∀ n, crcIt n (crcIt m r) = crcIt (n + m) r
  | 0 => by rw [Nat.zero_add]; rfl
  | n + 1 => by rw [Nat.succ_add]; exact congrArg crcM (crcIt_add r m n)

/-! ### bits -/
def bitB (b : Bool) : BitVec 32 := if b then 1#32 else 0#32
def feed (r : BitVec 32) (b : Bool) : BitVec 32 := crcM (r ^^^ bitB b)
def bitsOf (c : UInt8) : List Bool := (List.range 8).map fun i => c.toNat.testBit i
def bitsL (l : List UInt8) : List Bool := l.flatMap bitsOf
theorem crcM_even (r : BitVec 32) (h : r.getLsbD 0 = false) : crcM r = r >>> 1 := by rw [crcM_if, h]; simp
/-- The rest of a byte waits above. -/
theorem step_bits (c : Nat) (hc : c < 256) (r : BitVec 32) : ∀ n, n ≤ 8 → crcIt n (r ^^^ BitVec.ofNat 32 c) = (((List.range n).map fun i => c.testBit i).foldl feed r) ^^^ BitVec.ofNat 32 (c / 2 ^ n)
  | 0, _ => by simp [crcIt]
  | n + 1, hn => by
    have ih := step_bits c hc r n (by omega)
    rw [crcIt, ih, List.range_succ, List.map_append, List.foldl_append]
    simp only [List.map_cons, List.map_nil, List.foldl_cons, List.foldl_nil]
    generalize List.foldl feed r (List.map (fun i => c.testBit i) (List.range n)) = q
    unfold feed
    have hs : BitVec.ofNat 32 (c / 2 ^ n) = bitB (c.testBit n) ^^^ BitVec.ofNat 32 (2 * (c / 2 ^ (n + 1))) := by
      have h2 : c / 2 ^ (n + 1) = c / 2 ^ n / 2 := by rw [Nat.pow_succ, Nat.div_div_eq_div_mul]
      have hb : c.testBit n = decide (c / 2 ^ n % 2 = 1) := Nat.testBit_eq_decide_div_mod_eq
      rw [h2, hb]
      have hx : c / 2 ^ n < 256 := Nat.lt_of_le_of_lt (Nat.div_le_self _ _) hc
      generalize c / 2 ^ n = x at hx
      have key : ∀ y : Fin 256, BitVec.ofNat 32 y.val = bitB (decide (y.val % 2 = 1)) ^^^ BitVec.ofNat 32 (2 * (y.val / 2)) := by decide +kernel
      exact key ⟨x, hx⟩
    rw [hs, ← BitVec.xor_assoc, crcM_xor]
    congr 1
    have hx : c / 2 ^ (n + 1) < 256 := Nat.lt_of_le_of_lt (Nat.div_le_self _ _) hc
    generalize c / 2 ^ (n + 1) = x at hx
    have key : ∀ y : Fin 256, crcM (BitVec.ofNat 32 (2 * y.val)) = BitVec.ofNat 32 y.val := by decide +kernel
    exact key ⟨x, hx⟩
theorem step_feed (r : BitVec 32) (c : UInt8) : crcStep r c = (bitsOf c).foldl feed r := by
  have hc := c.toNat_lt
  have h := step_bits c.toNat hc r 8 (by omega)
  have h1 : c.toNat / 2 ^ 8 = 0 := Nat.div_eq_of_lt hc
  rw [h1, BitVec.xor_zero] at h
  unfold crcStep bitsOf
  rw [← h]
  congr 2
  apply BitVec.eq_of_toNat_eq
  rw [BitVec.toNat_setWidth, BitVec.toNat_ofNat]; rfl
theorem reg_feed : ∀ (l : List UInt8) (r : BitVec 32), crcReg r l = (bitsL l).foldl feed r
  | [], r => rfl
  | c :: l, r => by
    show crcReg (crcStep r c) l = _
    rw [reg_feed l, step_feed]
    simp only [bitsL, List.flatMap_cons, List.foldl_append]
theorem feed_xor (r s : BitVec 32) (a b : Bool) : feed (r ^^^ s) (a ^^ b) = feed r a ^^^ feed s b := by
  unfold feed
  rw [← crcM_xor]
  congr 1
  have : bitB (a ^^ b) = bitB a ^^^ bitB b := by cases a <;> cases b <;> decide
  rw [this, BitVec.xor_assoc, BitVec.xor_assoc]
  congr 1
  rw [← BitVec.xor_assoc, BitVec.xor_comm s, BitVec.xor_assoc]
def xorB : List Bool → List Bool → List Bool := List.zipWith (· ^^ ·)
theorem feeds_xor : ∀ (l m : List Bool) (r s : BitVec 32), l.length = m.length → (xorB l m).foldl feed (r ^^^ s) = l.foldl feed r ^^^ m.foldl feed s
  | [], [], r, s, _ => rfl
  | a :: l, b :: m, r, s, h => by
    show (xorB l m).foldl feed (feed (r ^^^ s) (a ^^ b)) = _
    rw [feed_xor]
    exact feeds_xor l m _ _ (by simpa using h)
  | [], _ :: _, _, _, h => by simp at h
  | _ :: _, [], _, _, h => by simp at h
theorem feed_zeros : ∀ (n : Nat), (List.replicate n false).foldl feed 0#32 = 0#32
  | 0 => rfl
  | n + 1 => by
    show (List.replicate n false).foldl feed (feed 0#32 false) = _
    have : feed 0#32 false = 0#32 := by decide
    rw [this]; exact feed_zeros n
theorem feed_zeros_inj : ∀ (n : Nat) (r : BitVec 32), (List.replicate n false).foldl feed r = 0#32 → r = 0#32
  | 0, r, h => h
  | n + 1, r, h => by
    have h1 := feed_zeros_inj n (feed r false) h
    unfold feed at h1
    have h2 := crcM_inj0 h1
    simpa [bitB] using h2
/-- The word whose bits these are, the first one lowest. -/
def wordOf : List Bool → Nat
  | [] => 0
  | b :: l => b.toNat + 2 * wordOf l
theorem wordOf_append (l : List Bool) (b : Bool) : wordOf (l ++ [b]) = wordOf l + 2 ^ l.length * b.toNat := by
  induction l with
  | nil => simp [wordOf]
  | cons a l ih =>
    simp only [List.cons_append, wordOf, ih, List.length_cons, Nat.pow_succ]
    rw [Nat.mul_add]
    have : 2 * (2 ^ l.length * b.toNat) = 2 ^ l.length * 2 * b.toNat := by rw [Nat.mul_comm (2 ^ l.length) 2, Nat.mul_assoc]
    omega
theorem wordOf_lt : ∀ l : List Bool, wordOf l < 2 ^ l.length
  | [] => by decide
  | b :: l => by
    have := wordOf_lt l
    have hb : b.toNat ≤ 1 := by cases b <;> decide
    simp only [wordOf, List.length_cons, Nat.pow_succ]
    omega
theorem wordOf_zero : ∀ l : List Bool, wordOf l = 0 → ∀ b ∈ l, b = false
  | [], _, b, h => by cases h
  | a :: l, h, b, hb => by
    simp only [wordOf] at h
    rcases List.mem_cons.1 hb with rfl | hb
    · cases b with
      | false => rfl
      | true => simp at h
    · refine wordOf_zero l ?_ b hb
      omega
theorem crcIt_pow (n : Nat) (hn : n < 32) : crcIt n (BitVec.ofNat 32 (2 ^ n)) = 1#32 := by
  have key : ∀ y : Fin 32, crcIt y.val (BitVec.ofNat 32 (2 ^ y.val)) = 1#32 := by decide +kernel
  exact key ⟨n, hn⟩
theorem feed_word : ∀ (n : Nat) (l : List Bool), l.length = n → n ≤ 32 → l.foldl feed 0#32 = crcIt n (BitVec.ofNat 32 (wordOf l)) := by
  intro n
  induction n with
  | zero => intro l hl _; rw [List.eq_nil_of_length_eq_zero hl]; rfl
  | succ n ih =>
    intro l hl hn
    obtain ⟨m, b, rfl⟩ : ∃ m b, l = m ++ [b] := ⟨l.dropLast, l.getLast (by intro h; subst h; simp at hl), (List.dropLast_concat_getLast _).symm⟩
    have hm : m.length = n := by simpa using hl
    rw [List.foldl_append, ih m hm (by omega)]
    show crcM (crcIt n (BitVec.ofNat 32 (wordOf m)) ^^^ bitB b) = crcM (crcIt n (BitVec.ofNat 32 (wordOf (m ++ [b]))))
    congr 1
    rw [wordOf_append, hm]
    cases b with
    | false => simp [bitB]
    | true =>
      have hlt : wordOf m < 2 ^ n := hm ▸ wordOf_lt m
      have h1 : bitB true = crcIt n (BitVec.ofNat 32 (2 ^ n)) := (crcIt_pow n (by omega)).symm
      rw [h1, ← crcIt_xor]
      congr 1
      have h2 : wordOf m + 2 ^ n * true.toNat = wordOf m ^^^ 2 ^ n := by
        have h3 := Nat.two_pow_add_eq_or_of_lt hlt 1
        have h4 : true.toNat = 1 := rfl
        have h5 : (2 ^ n * 1) &&& wordOf m = 0 := by
          rw [Nat.mul_one]
          apply Nat.eq_of_testBit_eq
          intro i
          rw [Nat.testBit_and, Nat.zero_testBit, Nat.testBit_two_pow]
          by_cases hi : n = i
          · subst hi
            rw [Nat.testBit_lt_two_pow hlt, Bool.and_false]
          · simp [hi]
        rw [h4, Nat.add_comm, h3, Nat.mul_one]
        rw [Nat.mul_one] at h5
        apply Nat.eq_of_testBit_eq
        intro i
        have h6 := congrArg (fun x => Nat.testBit x i) h5
        simp only [Nat.testBit_and, Nat.zero_testBit] at h6
        rw [Nat.testBit_or, Nat.testBit_xor]
        revert h6
        generalize (2 ^ n).testBit i = u
        generalize (wordOf m).testBit i = v
        cases u <;> cases v <;> decide
      rw [h2, BitVec.ofNat_xor]
/-- Zeros, at most 32 bits not all zero, zeros: not zero. -/
theorem burst_seen (i j : Nat) (l : List Bool) (hl : l.length ≤ 32) (h : (List.replicate i false ++ l ++ List.replicate j false).foldl feed 0#32 = 0#32) : ∀ b ∈ l, b = false := by
  rw [List.foldl_append, List.foldl_append, feed_zeros] at h
  have h1 := feed_zeros_inj j _ h
  rw [feed_word l.length l rfl hl] at h1
  have h2 := crcIt_inj0 _ h1
  refine wordOf_zero l ?_
  have h3 := congrArg BitVec.toNat h2
  rw [BitVec.toNat_ofNat, Nat.mod_eq_of_lt (Nat.lt_of_lt_of_le (wordOf_lt l) (Nat.pow_le_pow_right (by decide) hl))] at h3
  simpa using h3

/-! ### the sum behind the bytes: a fixed rest -/
theorem bits_byte (n k : Nat) : bitsOf (UInt8.ofNat (n / 2 ^ (8 * k))) = (List.range 8).map fun j => n.testBit (8 * k + j) := by
  unfold bitsOf
  apply List.map_congr_left
  intro j hj
  have hj : j < 8 := List.mem_range.1 hj
  rw [UInt8.toNat_ofNat', Nat.testBit_mod_two_pow, Nat.testBit_div_two_pow, decide_eq_true hj, Bool.true_and, Nat.add_comm j]
theorem bits_four (x : BitVec 32) : bitsL (four x) = (List.range 32).map fun j => x.getLsbD j := by
  have h0 := bits_byte x.toNat 0
  have h1 := bits_byte x.toNat 1
  have h2 := bits_byte x.toNat 2
  have h3 := bits_byte x.toNat 3
  rw [Nat.mul_zero, Nat.pow_zero, Nat.div_one] at h0
  unfold bitsL four
  simp only [List.flatMap_cons, List.flatMap_nil]
  have e0 : bitsOf (UInt8.ofNat x.toNat) = _ := h0
  have e1 : bitsOf (UInt8.ofNat (x.toNat / 2 ^ 8)) = _ := h1
  have e2 : bitsOf (UInt8.ofNat (x.toNat / 2 ^ 16)) = _ := h2
  have e3 : bitsOf (UInt8.ofNat (x.toNat / 2 ^ 24)) = _ := h3
  rw [e0, e1, e2, e3]
  rfl
theorem reg_four_n (x : BitVec 32) : ∀ n, n ≤ 32 → ((List.range n).map fun j => x.getLsbD j).foldl feed x = x >>> n
  | 0, _ => by simp
  | n + 1, hn => by
    rw [List.range_succ, List.map_append, List.foldl_append, reg_four_n x n (by omega)]
    show crcM (x >>> n ^^^ bitB (x.getLsbD n)) = _
    have hb : (x >>> n ^^^ bitB (x.getLsbD n)).getLsbD 0 = false := by
      rw [BitVec.getLsbD_xor, BitVec.getLsbD_ushiftRight, Nat.add_zero]
      cases x.getLsbD n <;> decide
    rw [crcM_even _ hb, BitVec.ushiftRight_xor_distrib]
    have : bitB (x.getLsbD n) >>> 1 = 0#32 := by cases x.getLsbD n <;> decide
    rw [this, BitVec.xor_zero, ← BitVec.shiftRight_add]
theorem reg_four (x : BitVec 32) : crcReg x (four x) = 0#32 := by
  rw [reg_feed, bits_four, reg_four_n x 32 (by decide)]
  apply BitVec.eq_of_getLsbD_eq
  intro i hi
  rw [BitVec.getLsbD_ushiftRight, BitVec.getLsbD_of_ge _ _ (by omega)]; simp
theorem xorB_map {α : Type} (l : List α) (f g : α → Bool) : xorB (l.map f) (l.map g) = l.map fun x => f x ^^ g x := by
  induction l with
  | nil => rfl
  | cons a l ih => simp only [List.map_cons, xorB, List.zipWith_cons_cons] at *; rw [ih]
theorem reg_append (r : BitVec 32) (a b : List UInt8) : crcReg r (a ++ b) = crcReg (crcReg r a) b := List.foldl_append
theorem reg_seal (b : List UInt8) : crcReg (BitVec.allOnes 32) (sealL b) = crcReg 0#32 (four (BitVec.allOnes 32)) := by
  unfold sealL crcSum
  rw [reg_append]
  generalize crcReg (BitVec.allOnes 32) b = x
  have h := feeds_xor (bitsL (four x)) (bitsL (four (BitVec.allOnes 32))) x 0#32 (by rw [bits_four, bits_four]; simp)
  rw [← reg_feed, ← reg_feed, reg_four, BitVec.zero_xor, BitVec.xor_zero] at h
  rw [reg_feed, ← h, bits_four, bits_four, bits_four, xorB_map]
  congr 1
  apply List.map_congr_left
  intro j _
  rw [BitVec.getLsbD_xor]
theorem bitsOf_inj {a b : UInt8} (h : bitsOf a = bitsOf b) : a = b := by
  apply UInt8.toNat_inj.1
  apply Nat.eq_of_testBit_eq
  intro i
  by_cases hi : i < 8
  · have h1 := congrArg (fun l => l[i]?) h
    simp only [bitsOf, List.getElem?_map, List.getElem?_range hi, Option.map_some] at h1
    injection h1
  · rw [Nat.testBit_lt_two_pow (Nat.lt_of_lt_of_le a.toNat_lt (Nat.pow_le_pow_right (by decide) (by omega))), Nat.testBit_lt_two_pow (Nat.lt_of_lt_of_le b.toNat_lt (Nat.pow_le_pow_right (by decide) (by omega)))]
theorem bitsOf_length (a : UInt8) : (bitsOf a).length = 8 := by simp [bitsOf]
theorem bitsL_cons (a : UInt8) (l : List UInt8) : bitsL (a :: l) = bitsOf a ++ bitsL l := List.flatMap_cons
theorem bitsL_length : ∀ l : List UInt8, (bitsL l).length = 8 * l.length
  | [] => rfl
  | a :: l => by rw [bitsL_cons, List.length_append, bitsOf_length, bitsL_length l, List.length_cons]; omega
theorem bitsL_inj : ∀ {a b : List UInt8}, bitsL a = bitsL b → a = b
  | [], [], _ => rfl
  | [], y :: b, h => by have := congrArg List.length h; rw [bitsL_length, bitsL_length] at this; simp at this
  | x :: a, [], h => by have := congrArg List.length h; rw [bitsL_length, bitsL_length] at this; simp at this
  | x :: a, y :: b, h => by
    rw [bitsL_cons, bitsL_cons] at h
    obtain ⟨h1, h2⟩ := List.append_inj h (by rw [bitsOf_length, bitsOf_length])
    rw [bitsOf_inj h1, bitsL_inj h2]
theorem xorB_false : ∀ (l m : List Bool), l.length = m.length → (∀ b ∈ xorB l m, b = false) → l = m
  | [], [], _, _ => rfl
  | a :: l, b :: m, h, hb => by
    have h1 : (a ^^ b) = false := hb _ (List.mem_cons_self ..)
    have h2 : a = b := by cases a <;> cases b <;> first | rfl | cases h1
    rw [h2, xorB_false l m (by simpa using h) (fun c hc => hb c (List.mem_cons_of_mem _ hc))]
  | [], _ :: _, h, _ => by simp at h
  | _ :: _, [], h, _ => by simp at h
/-- What a burst of at most 32 bits has turned does not open. -/
theorem open_burst (b t : List UInt8) (ht : t.length = (sealL b).length) (i j : Nat) (l : List Bool) (hl : l.length ≤ 32) (hx : xorB (bitsL t) (bitsL (sealL b)) = List.replicate i false ++ l ++ List.replicate j false) (hne : t ≠ sealL b) : openL t = none := by
  cases ho : openL t with
  | none => rfl
  | some m =>
    exfalso
    have hm := openL_some ho
    have hlen : (bitsL t).length = (bitsL (sealL b)).length := by rw [bitsL_length, bitsL_length, ht]
    have h := feeds_xor (bitsL t) (bitsL (sealL b)) (BitVec.allOnes 32) (BitVec.allOnes 32) hlen
    rw [← reg_feed, ← reg_feed, reg_seal b, hm, reg_seal m, BitVec.xor_self, BitVec.xor_self, ← hm, hx] at h
    have h1 := burst_seen i j l hl h
    apply hne
    apply bitsL_inj
    apply xorB_false _ _ hlen
    rw [hx]
    intro c hc
    simp only [List.mem_append, List.mem_replicate] at hc
    rcases hc with (hc | hc) | hc
    · exact hc.2
    · exact h1 c hc
    · exact hc.2

/-! ### in the model's words -/
theorem bits_toNat (x : BitVec 32) : BitVec.ofInt IntKind.u32.bits ((x.toNat : Nat) : Int) = x := by
  apply BitVec.eq_of_toNat_eq
  rw [BitVec.ofInt_natCast, BitVec.toNat_ofNat]
  exact Nat.mod_eq_of_lt x.isLt
theorem wrap_toNat (x : BitVec 32) : IntKind.u32.wrap ((x.toNat : Nat) : Int) = ((x.toNat : Nat) : Int) := wu32 (by omega) (by have := x.isLt; omega)
theorem bx32 (x y : BitVec 32) : bitv .xor .u32 ((x.toNat : Nat) : Int) ((y.toNat : Nat) : Int) = (((x ^^^ y).toNat : Nat) : Int) := by
  unfold bitv
  simp only [bits_toNat]
  exact wrap_toNat _
theorem ba32 (x y : BitVec 32) : bitv .and .u32 ((x.toNat : Nat) : Int) ((y.toNat : Nat) : Int) = (((x &&& y).toNat : Nat) : Int) := by
  unfold bitv
  simp only [bits_toNat]
  exact wrap_toNat _
theorem bs32 (x : BitVec 32) : ((x.toNat : Nat) : Int).fdiv (2 ^ (min (1 : Int).toNat IntKind.u32.bits)) = (((x >>> 1).toNat : Nat) : Int) := by
  rw [BitVec.toNat_ushiftRight, Nat.shiftRight_eq_div_pow]
  show ((x.toNat : Nat) : Int).fdiv 2 = ((x.toNat / 2 : Nat) : Int)
  rw [Int.fdiv_eq_ediv_of_nonneg _ (by decide)]
  omega
theorem bn32 (x : BitVec 32) : IntKind.u32.wrap (-((x.toNat : Nat) : Int)) = (((-x).toNat : Nat) : Int) := by
  have h := x.isLt
  rw [BitVec.toNat_neg]
  simp only [IntKind.wrap, IntKind.bits, IntKind.signed]
  simp
  omega
theorem bu32 (c : UInt8) : IntKind.u32.wrap ((c.toNat : Nat) : Int) = (((c.toBitVec.setWidth 32).toNat : Nat) : Int) := by
  have h := c.toNat_lt
  rw [wu32 (by omega) (by omega), BitVec.toNat_setWidth]
  congr 1
  have : c.toBitVec.toNat = c.toNat := rfl
  omega
theorem four_get (s : BitVec 32) (i : Nat) (h : i < 4) : Value.int .u8 (IntKind.u8.wrap (((s.toNat : Nat) : Int).fdiv (2 ^ (min (8 * (i : Int)).toNat IntKind.u32.bits)))) = u8 ((four s).getD i 0) := by
  have h1 : min (8 * (i : Int)).toNat IntKind.u32.bits = 8 * i := by show min (8 * (i : Int)).toNat 32 = 8 * i; omega
  rw [h1, Int.fdiv_eq_ediv_of_nonneg _ (Int.pow_nonneg (by decide))]
  have h2 : ((s.toNat : Nat) : Int) / (2 ^ (8 * i)) = ((s.toNat / 2 ^ (8 * i) : Nat) : Int) := by push_cast; rfl
  rw [h2]
  have key : (four s).getD i 0 = UInt8.ofNat (s.toNat / 2 ^ (8 * i)) := by
    match i, h with
    | 0, _ => simp [four] | 1, _ => rfl | 2, _ => rfl | 3, _ => rfl
  rw [key]
  simp [u8, IntKind.wrap, IntKind.bits, IntKind.signed]
end Go.Proofs.Ytgdbbaggkoillaa
/- crc: Step, Sum, four, Seal, Open; slices: Concat, Clone, Grow: walks. -/
namespace Go.Proofs.Ytgdbbaggkoillaa
open K
set_option maxRecDepth 100000
set_option maxHeartbeats 4000000

def u32v (x : BitVec 32) : Value := .int .u32 ((x.toNat : Nat) : Int)
theorem c_step (r : BitVec 32) (c : UInt8) (w : World) : Cl Try.prog 89 #[.int .u32 ((r.toNat : Nat) : Int), u8 c] w (fun v w' => v = .int .u32 (((crcStep r c).toNat : Nat) : Int) ∧ Chg No w w') := by
  refine f_enter (args := [_, _]) Try.func89 rfl rfl ?_
  have mm := Mem.nil No w
  refine c_sreg rfl ?_
  refine s1 (r_asi rfl) ?_
  refine wn ?_
  refine c_sreg rfl ?_
  refine s1 (r_mvi rfl) ?_
  refine s1 (r_mvi rfl) ?_
  refine s1 (r_cv rfl (bu32 c)) ?_
  refine s1 (r_bxor rfl rfl (bx32 _ _)) ?_
  refine s1 (r_asi rfl) ?_
  refine wn ?_
  refine c_seq ?_
  refine c_sreg rfl ?_
  refine s1 (r_mvi rfl) ?_
  refine wn ?_
  refine c_block ?_
  refine c_loop (fun k e w' => ∃ i, k + i = 8 ∧ e 0 = .int .u32 (((crcIt i (r ^^^ c.toBitVec.setWidth 32)).toNat : Nat) : Int) ∧ e 9 = .int .i64 (i : Nat) ∧ Mem w No w' []) 8 ?_ ?_
  · exact ⟨0, rfl, rfl, rfl, mm⟩
  clear mm
  rintro k e w9 ⟨i, hki, h0, h9, mm⟩
  refine c_sreg rfl ?_
  refine s1 (r_lt h9 rfl) ?_
  refine wn ?_
  refine c_seq ?_
  refine c_cond rfl (fun h => (c_skip (t_n ?_))) (fun h => (c_exit (t_x (t_x (b_x (t_n ?_))))))
  · have hi : i < 8 := by simp at h; omega
    clear h
    refine c_seq ?_
    refine c_block ?_
    refine c_region rfl ?_
    refine s1 (r_mvi h0) ?_
    refine s1 (r_shr rfl rfl (by decide) (bs32 _)) ?_
    refine s1 (r_mvi h0) ?_
    refine s1 (r_band rfl rfl (ba32 _ 1#32)) ?_
    refine s1 (r_neg rfl (bn32 _)) ?_
    refine s1 (r_band rfl rfl (ba32 poly _)) ?_
    refine s1 (r_bxor rfl rfl (bx32 _ _)) ?_
    refine s1 (r_asi rfl) ?_
    refine wn (b_n (t_n ?_))
    refine c_region rfl ?_
    refine s1 (r_add h9 rfl (wi (by omega) (by omega))) ?_
    refine s1 (r_mvi rfl) ?_
    refine wn (t_n ?_)
    exact ⟨k - 1, by omega, i + 1, by omega, rfl, rfl, mm⟩
  · have hi : i = 8 := by simp at h; omega
    subst hi
    refine c_sreg rfl ?_
    refine s1 (r_mvi h0) ?_
    refine s1 (r_asi rfl) ?_
    refine wn ?_
    exact c_ret (ret1 rfl rfl ⟨rfl, mm.chg⟩)

theorem crcReg_snoc (r : BitVec 32) (b : List UInt8) (i : Nat) (h : i < b.length) : crcReg r (b.take (i + 1)) = crcStep (crcReg r (b.take i)) (b.getD i 0) := by
  have : b.take (i + 1) = b.take i ++ [b.getD i 0] := by rw [List.take_succ_eq_append_getElem h]; simp [List.getD, h]
  rw [this, crcReg, List.foldl_append]; rfl
theorem c_sum (b : List UInt8) (hb : b.length ≤ 4611686018427387904) (v : Value) (w : World) (hs : Sl w v b) : Cl Try.prog 70 #[v] w (fun v w' => v = .int .u32 (((crcSum b).toNat : Nat) : Int) ∧ Chg No w w') := by
  obtain ⟨a, c, rfl, hc, H⟩ := hs
  refine f_enter (args := [_]) Try.func70 rfl rfl ?_
  have mm := Mem.nil No w
  refine c_sreg rfl ?_
  refine s1 (r_asi rfl) ?_
  refine wn ?_
  refine c_sreg rfl ?_
  refine s1 (r_asi rfl) ?_
  refine wn ?_
  refine c_seq ?_
  refine c_sreg rfl ?_
  refine s1 (r_mvs rfl) ?_
  refine s1 (r_len rfl) ?_
  refine s1 (r_mvi rfl) ?_
  refine wn ?_
  refine c_block ?_
  refine c_loop (fun k e w' => ∃ i, k + i = b.length ∧ e 3 = .int .u32 (((crcReg (BitVec.allOnes 32) (b.take i)).toNat : Nat) : Int) ∧ e 6 = .slice a b.length c ∧ e 7 = .int .i64 (b.length : Nat) ∧ e 8 = .int .i64 (i : Nat) ∧ Mem w No w' []) b.length ?_ ?_
  · exact ⟨0, rfl, rfl, rfl, rfl, rfl, mm⟩
  clear mm
  rintro k e w9 ⟨i, hki, h3, h6, h7, h8, mm⟩
  refine c_sreg rfl ?_
  refine s1 (r_lt h8 h7) ?_
  refine wn ?_
  refine c_seq ?_
  refine c_cond rfl (fun h => (c_skip (t_n ?_))) (fun h => (c_exit (t_x (t_x (b_x (t_n ?_))))))
  · have hi : i < b.length := by simp at h; omega
    clear h
    refine c_seq ?_
    refine c_block ?_
    refine c_sreg rfl ?_
    refine s1 (r_ix h6 h8 (by omega) (by omega) (H.some (nth_u8s b i hi))) ?_
    refine s1 (r_ldc rfl (mm.ro H) (nth_u8s b i hi)) ?_
    refine s1 (r_asi rfl) ?_
    refine wn ?_
    refine c_region rfl ?_
    refine s1 (r_mvi h3) ?_
    refine s1 (r_mvi rfl) ?_
    refine so (o_c2 rfl rfl (c_step _ _ _) ?_)
    rintro _ w2 ⟨rfl, hc⟩
    have mm := mm.frame hc
    refine s1 (r_asi rfl) ?_
    refine wn (b_n (t_n ?_))
    refine c_region rfl ?_
    refine s1 (r_add h8 rfl (wi (by omega) (by omega))) ?_
    refine s1 (r_mvi rfl) ?_
    refine wn (t_n ?_)
    refine ⟨k - 1, by omega, i + 1, by omega, ?_, h6, h7, rfl, mm⟩
    rw [crcReg_snoc _ _ _ hi]
    exact h3 ▸ rfl
  · have hi : i = b.length := by simp at h; omega
    subst hi
    rw [List.take_length] at h3
    refine c_sreg rfl ?_
    refine s1 (r_mvi h3) ?_
    refine s1 (r_bxor rfl rfl (bx32 _ (BitVec.allOnes 32))) ?_
    refine s1 (r_asi rfl) ?_
    refine wn ?_
    exact c_ret (ret1 rfl rfl ⟨rfl, mm.chg⟩)

def part4 (s : BitVec 32) (i : Nat) : List UInt8 := (four s).take i ++ List.replicate (4 - i) 0
theorem setN_part4 (s : BitVec 32) (i : Nat) (h : i < 4) : setN (u8s (part4 s i)) (0 + ((i : Nat) : Int).toNat * 1) (u8 ((four s).getD i 0)) = u8s (part4 s (i + 1)) := by
  match i, h with
  | 0, _ => rfl | 1, _ => rfl | 2, _ => rfl | 3, _ => rfl
theorem part4_length (s : BitVec 32) (i : Nat) (h : i ≤ 4) : (u8s (part4 s i)).length = 4 := by rw [u8s_length]; simp [part4, four_length]; omega
theorem c_four (s : BitVec 32) (w : World) : Cl Try.prog 69 #[.int .u32 ((s.toNat : Nat) : Int)] w (fun v w' => v = .agg (u8s (four s)).toArray ∧ Chg No w w') := by
  refine f_enter (args := [_]) Try.func69 rfl rfl ?_
  have mm := Mem.nil No w
  refine c_sreg rfl ?_
  refine so (o_al mm fun b2 w2 mm => ?_)
  refine wn ?_
  refine c_sreg rfl ?_
  refine so (o_al mm fun b3 w3 mm => ?_)
  refine wn ?_
  refine c_seq ?_
  refine c_sreg rfl ?_
  refine s1 (r_mvi rfl) ?_
  refine wn ?_
  have mm : Mem w No w3 [bk b2 (u8s [0, 0, 0, 0]) 96, bk b3 (u8s (part4 s 0)) 96] := mm
  refine c_block ?_
  refine c_loop (fun k e w' => ∃ i, k + i = 4 ∧ e 0 = .int .u32 ((s.toNat : Nat) : Int) ∧ e 2 = .pointer (some ⟨b2, 0, none⟩) ∧ e 3 = .pointer (some ⟨b3, 0, none⟩) ∧ e 5 = .int .i64 (i : Nat) ∧ Mem w No w' [bk b2 (u8s [0, 0, 0, 0]) 96, bk b3 (u8s (part4 s i)) 96]) 4 ?_ ?_
  · exact ⟨0, rfl, rfl, rfl, rfl, rfl, mm⟩
  clear mm
  rintro k e w9 ⟨i, hki, h0, h2, h3, h5, mm⟩
  refine c_sreg rfl ?_
  refine s1 (r_lt h5 rfl) ?_
  refine wn ?_
  refine c_seq ?_
  refine c_cond rfl (fun h => (c_skip (t_n ?_))) (fun h => (c_exit (t_x (t_x (b_x (t_n ?_))))))
  · have hi : i < 4 := by simp at h; omega
    clear h
    refine c_seq ?_
    refine c_block ?_
    refine c_sreg rfl ?_
    refine s1 (r_mvi h5) ?_
    refine s1 (r_asi rfl) ?_
    refine wn ?_
    refine c_region rfl ?_
    refine s1 (r_mvi rfl) ?_
    refine s1 (r_mvi h0) ?_
    refine s1 (r_mvi rfl) ?_
    refine s1 (r_mul rfl rfl (wi (by omega) (by omega))) ?_
    refine s1 (r_shr rfl rfl (by omega) rfl) ?_
    refine s1 (r_cv rfl rfl) ?_
    refine s1 (r_ixa h3 rfl (by omega) (by omega)) ?_
    refine ss (o_st mm 1 rfl rfl rfl rfl (by have := part4_length s i (by omega); rw [this]; simp [Nat.blt_eq]; omega) fun w4 mm => ?_)
    refine wn (b_n (t_n ?_))
    rw [four_get s i hi] at mm
    have mm : Mem w No _ [bk b2 (u8s [0, 0, 0, 0]) 96, bk b3 (setN (u8s (part4 s i)) (0 + ((i : Nat) : Int).toNat * 1) (u8 ((four s).getD i 0))) 96] := mm
    rw [setN_part4 s i hi] at mm
    refine c_region rfl ?_
    refine s1 (r_add h5 rfl (wi (by omega) (by omega))) ?_
    refine s1 (r_mvi rfl) ?_
    refine wn (t_n ?_)
    exact ⟨k - 1, by omega, i + 1, by omega, h0, h2, h3, rfl, mm⟩
  · have hi : i = 4 := by simp at h; omega
    subst hi
    refine c_sreg rfl ?_
    refine s1 (r_lda h3 (mm.b 1 rfl) rfl) ?_
    refine ss (o_sta mm 0 rfl h2 rfl rfl rfl (Nat.le_of_ble_eq_true rfl) fun w5 mm => ?_)
    refine wn ?_
    exact c_ret (retc rfl h2 (mm.b 0 rfl) rfl ⟨rfl, mm.chg⟩)

theorem c_grow (n : Nat) (hn : n ≤ 1099511627776) (w : World) : Cl Try.prog 90 #[.slice none 0 0, .int .i64 (n : Nat)] w (fun v w' => ∃ a c, v = .slice a 0 c ∧ Chg No w w' ∧ New w w' (own 5 1 a 0 c [])) := by
  refine f_enter (args := [_, _]) Try.func90 rfl rfl ?_
  have mm := Mem.nil No w
  refine c_sreg rfl ?_
  refine s1 (r_ass rfl) ?_
  refine wn ?_
  refine c_seq ?_
  refine c_sreg rfl ?_
  refine s1 (r_mvi rfl) ?_
  refine s1 (r_lt rfl rfl) ?_
  refine wn ?_
  refine c_cond rfl (fun h => ?_) (fun h => (c_skip (t_n ?_)))
  · simp at h; omega
  clear h
  refine c_seq ?_
  refine c_sreg rfl ?_
  refine s1 (r_mvi rfl) ?_
  refine s1 (r_mvs rfl) ?_
  refine s1 (r_cap rfl) ?_
  refine s1 (r_mvs rfl) ?_
  refine s1 (r_len rfl) ?_
  refine s1 (r_sub rfl rfl (show IntKind.i64.wrap _ = 0 from by decide)) ?_
  refine s1 (r_sub rfl rfl ((wi (by omega) (by omega)).trans (Int.sub_zero _))) ?_
  refine s1 (r_asi rfl) ?_
  refine wn ?_
  refine c_sreg rfl ?_
  refine s1 (r_mvi rfl) ?_
  refine s1 (r_gt rfl rfl) ?_
  refine wn ?_
  refine c_mid0 (fun e w' => ∃ a c, e 0 = .slice a 0 c ∧ Mem w No w' [own 5 1 a 0 c []]) ?_ ?_
  · refine c_cond rfl (fun h => ?_) (fun h => (c_skip (t_n ?_)))
    · have h0 : 0 < n := by simp at h; omega
      refine c_region rfl ?_
      refine s1 (r_mvs rfl) ?_
      refine s1 (r_mvs rfl) ?_
      refine s1 (r_cap rfl) ?_
      refine s1 (r_slh rfl rfl (by omega) (by omega)) ?_
      refine s1 (r_mvi rfl) ?_
      refine so (o_apz mm rfl rfl h0 (by unfold maxLen; omega) (by omega) fun a2 c2 w2 mm hcap2 => ?_)
      refine s1 (r_mvs rfl) ?_
      refine s1 (r_len rfl) ?_
      refine s1 (r_slh rfl rfl (by omega) (by omega)) ?_
      refine s1 (r_ass rfl) ?_
      refine wn (t_n ?_)
      exact ⟨_, _, rfl, mm⟩
    · exact ⟨none, 0, rfl, mm.nilrow⟩
  clear mm
  rintro e w9 ⟨a, c, h0, mm⟩
  refine c_sreg rfl ?_
  refine s1 (r_mvs h0) ?_
  refine s1 (r_ass rfl) ?_
  refine wn ?_
  exact c_ret (ret1 rfl rfl ⟨a, c, rfl, mm.chg, mm.isNew 0 rfl⟩)
end Go.Proofs.Ytgdbbaggkoillaa
/- What a law's row asks, from what its walk gives: the result is true, and nothing that was there has turned. -/
namespace Go.Proofs.Ytgdbbaggkoillaa
open Go.ChangeShapes Go.WideShapes Go.ChangeAt Go.RowKit
namespace K

theorem Chg.below {W W' : World} (h : Chg No W W') : Below W.heap.size W W' := ⟨h.os, h.tape, h.output, h.size, fun k hk => h.same k hk (fun h => h)⟩

section
variable {H : Type} {enc : TypeId × Value → H} {P : Program}
theorem trodAll_stays (hl : laidOutB P = true) {W W' : World} {sp' : Nat → Bool} : ∀ (ts : List TypeId), ts.all (fun t => P.readableRec t && decide (t < P.types.size)) = true → ∀ (vs : List Value) (ds : List (DataW H)) (ps : List MemPlace),
    DataW.TrodAll enc P W 0 (fun _ => true) true ts vs ds ps → (∀ x ∈ ps, W.sameAt W' x) → (∀ x ∈ ps, sp' x.block = true) → DataW.TrodAll enc P W' 0 sp' true ts vs ds ps
  | [], _, vs, ds, ps, h, _, _ => by
    obtain ⟨rfl, rfl, rfl⟩ := trodAll_nil h
    exact trodAll_mk0
  | t :: ts, ht, vs, ds, ps, h, hs, hp => by
    obtain ⟨v, vs', d, ds', p, q, rfl, rfl, rfl, h1, h2⟩ := trodAll_cons h
    rw [List.all_cons, Bool.and_eq_true, Bool.and_eq_true, decide_eq_true_eq] at ht
    exact ⟨p, q, WideElems.Trod_stays hl ht.1.1 ht.1.2 h1 (fun x hx => hs x (List.mem_append_left _ hx)) (fun x hx => hp x (List.mem_append_left _ hx)),
      trodAll_stays hl ts ht.2 vs' ds' q h2 (fun x hx => hs x (List.mem_append_right _ hx)) (fun x hx => hp x (List.mem_append_right _ hx)), rfl⟩

theorem law_post {f : Func} {s : ChangeSpec} {apart fresh handsOn again : Bool} {W W' : World} {args : Array Value} {ds gs : List (DataW H)} {before : List MemPlace} {T : TypeId}
    (hl : laidOutB P = true) (hsv : s.vars = []) (hrt : f.resultTypes = #[T]) (hT : P.underlying T = some .bool) (hts : f.params.toList.all (fun t => P.readableRec t && decide (t < P.types.size)) = true)
    (hW : DataW.Whole enc P f.params.toList s.vars apart W args.toList ds gs before)
    (hr : (s.fn H (ds ++ gs)).results = [.lit (.bool true)]) (ha : (s.fn H (ds ++ gs)).args = ds) (hv : (s.fn H (ds ++ gs)).vars = []) (hc : Chg No W W') :
    s.post enc P f apart fresh handsOn again W args (.bool true) W' := by
  have hlt := hW.lt
  have hW0 := hW
  obtain ⟨p, q, hA, hV, rfl, hz, hn⟩ := hW0
  rw [hsv] at hV
  obtain ⟨rfl, rfl⟩ := trodVars_none hV
  rw [List.append_nil] at hlt hz hn
  have hb := hc.below
  have stays : ∀ sp' : Nat → Bool, (∀ x ∈ p, sp' x.block = true) → DataW.TrodAll enc P W' 0 sp' true f.params.toList args.toList (s.fn H (ds ++ [])).args p := fun sp' hs => by
    rw [ha]
    exact trodAll_stays hl _ hts _ _ _ hA (fun x hx => hb.same (hlt x hx)) hs
  have hres : ∀ (b : Nat) (sp : Nat → Bool) (hd : Bool), DataW.TrodAll enc P W' b sp hd f.resultTypes.toList ((Value.bool true).resultList f.resultTypes.size) (s.fn H (ds ++ [])).results [] := fun b sp hd => by
    rw [hr, hrt]
    exact trodAll_mk1 (shut_bool hT true)
  have hvars : ∀ sp : Nat → Bool, DataW.TrodVars enc P W' sp s.vars (s.fn H (ds ++ [])).vars [] := fun sp => by
    rw [hsv, hv]; exact rfl
  refine ⟨ds, [], p ++ [], [], p, [], hW, hres _ _ _, stays _ (fun x hx => by simpa using hlt x hx), hvars _, hb.frame _, fun _ => ⟨ok_one hrt rfl (okWide_bool_mk hT true), _, _, ([] ++ p) ++ [], ⟨[] ++ p, [], trodAll_append (stays _ (fun _ _ => rfl)) (hres _ _ _), hvars _, rfl, ?_, ?_⟩, ?_⟩⟩
  · intro b off hx
    simp only [List.nil_append, List.append_nil] at hx
    rw [hb.frozen (hlt _ hx)]
    exact hz b off hx
  · intro hap
    simpa using hn hap
  · intro x hx _
    simpa using hx
end
end K
end Go.Proofs.Ytgdbbaggkoillaa
/- slices.Concat of two, crc.Seal, slices.Clone, crc.Open: walks. -/
namespace Go.Proofs.Ytgdbbaggkoillaa
open K
set_option maxRecDepth 100000
set_option maxHeartbeats 4000000

def acc2 (p q : List UInt8) : Nat → List UInt8
  | 0 => [] | 1 => p | _ => p ++ q
theorem acc2_le (p q : List UInt8) : ∀ i, (acc2 p q i).length ≤ p.length + q.length
  | 0 => Nat.zero_le _ | 1 => Nat.le_add_right _ _ | _ + 2 => by simp [acc2]
theorem acc2_get {w : World} (p q : List UInt8) {aa ab : Option Addr} {ca cb : Nat} (h1 : Cells w aa (u8s p)) (h2 : Cells w ab (u8s q)) (i : Nat) (h : i < 2) :
    ∃ ai ci li, nth [Value.slice aa p.length ca, Value.slice ab q.length cb] (((i : Nat) : Int).toNat * 1) = some (.slice ai li.length ci) ∧ Cells w ai (u8s li) ∧ acc2 p q (i + 1) = acc2 p q i ++ li := by
  match i, h with
  | 0, _ => exact ⟨aa, ca, p, rfl, h1, rfl⟩
  | 1, _ => exact ⟨ab, cb, q, rfl, h2, rfl⟩
theorem c_concat2 (p q : List UInt8) (hl : p.length + q.length ≤ 1099511627776) {a aa ab : Option Addr} {c ca cb : Nat} (w : World) (H : Cells w a [Value.slice aa p.length ca, Value.slice ab q.length cb]) (h1 : Cells w aa (u8s p)) (h2 : Cells w ab (u8s q)) :
    Cl Try.prog 71 #[.slice a 2 c] w (fun v w' => ∃ a' c', v = .slice a' (p ++ q).length c' ∧ Chg No w w' ∧ New w w' (own 5 1 a' (p ++ q).length c' (u8s (p ++ q)))) := by
  refine f_enter (args := [_]) Try.func71 rfl rfl ?_
  have mm := Mem.nil No w
  refine c_sreg rfl ?_
  refine s1 (r_ass rfl) ?_
  refine wn ?_
  refine c_sreg rfl ?_
  refine s1 (r_asi rfl) ?_
  refine wn ?_
  refine c_seq ?_
  refine c_sreg rfl ?_
  refine s1 (r_mvs rfl) ?_
  refine s1 (r_len rfl) ?_
  refine s1 (r_mvi rfl) ?_
  refine wn ?_
  refine c_block ?_
  refine c_loop (fun k e w' => ∃ i, k + i = 2 ∧ e 0 = .slice a 2 c ∧ e 3 = .int .i64 (acc2 p q i).length ∧ e 9 = .slice a 2 c ∧ e 10 = .int .i64 2 ∧ e 11 = .int .i64 (i : Nat) ∧ Mem w No w' []) 2 ?_ ?_
  · exact ⟨0, rfl, rfl, rfl, rfl, rfl, rfl, mm⟩
  clear mm
  rintro k e w9 ⟨i, hki, h0, h3, h9, h10, h11, mm⟩
  refine c_sreg rfl ?_
  refine s1 (r_lt h11 h10) ?_
  refine wn ?_
  refine c_seq ?_
  refine c_cond rfl (fun h => (c_skip (t_n ?_))) (fun h => (c_exit (t_x (t_x (b_x (t_n ?_))))))
  · have hi : i < 2 := by simp at h; omega
    clear h
    obtain ⟨ai, ci, li, hg, hci, hacc⟩ := acc2_get (ca := ca) (cb := cb) p q h1 h2 i hi
    have hle := acc2_le p q (i + 1)
    rw [hacc, List.length_append] at hle
    refine c_seq ?_
    refine c_block ?_
    refine c_sreg rfl ?_
    refine s1 (r_ix h9 h11 (by omega) (by omega) (H.some hg)) ?_
    refine s1 (r_ldc rfl (mm.ro H) hg) ?_
    refine s1 (r_ass rfl) ?_
    refine wn ?_
    refine c_sreg rfl ?_
    refine s1 (r_mvi h3) ?_
    refine s1 (r_mvs rfl) ?_
    refine s1 (r_len rfl) ?_
    refine s1 (r_add rfl rfl (wi (by omega) (by omega))) ?_
    refine s1 (r_asi rfl) ?_
    refine wn ?_
    refine c_sreg rfl ?_
    refine s1 (r_mvi rfl) ?_
    refine s1 (r_lt rfl rfl) ?_
    refine wn ?_
    refine c_cond rfl (fun h => ?_) (fun h => (c_skip (b_n (t_n ?_))))
    · simp at h; omega
    clear h
    refine c_region rfl ?_
    refine s1 (r_add h11 rfl (wi (by omega) (by omega))) ?_
    refine s1 (r_mvi rfl) ?_
    refine wn (t_n ?_)
    refine ⟨k - 1, by omega, i + 1, by omega, h0, ?_, h9, h10, rfl, mm⟩
    rw [hacc, List.length_append]; rfl
  · have hi : i = 2 := by simp at h; omega
    subst hi
    refine c_sreg rfl ?_
    refine s1 (r_mvi h3) ?_
    refine so (o_c2 rfl rfl (c_grow (p ++ q).length (by rw [List.length_append]; exact hl) _) ?_)
    rintro _ w2 ⟨a2, c2, rfl, hc, hn⟩
    have mm := mm.new hc hn
    refine s1 (r_ass rfl) ?_
    refine wn ?_
    clear hc hn h h3 h9 h10 h11
    refine c_seq ?_
    refine c_sreg rfl ?_
    refine s1 (r_mvs h0) ?_
    refine s1 (r_len rfl) ?_
    refine s1 (r_mvi rfl) ?_
    refine wn ?_
    refine c_block ?_
    refine c_loop (fun k e w' => ∃ i a' c', k + i = 2 ∧ e 6 = .slice a' (acc2 p q i).length c' ∧ e 25 = .slice a 2 c ∧ e 26 = .int .i64 2 ∧ e 27 = .int .i64 (i : Nat) ∧ Mem w No w' [own 5 1 a' (acc2 p q i).length c' (u8s (acc2 p q i))]) 2 ?_ ?_
    · exact ⟨0, _, _, rfl, rfl, rfl, rfl, rfl, mm⟩
    clear mm
    rintro k e w9 ⟨i, a', c', hki, h6, h25, h26, h27, mm⟩
    refine c_sreg rfl ?_
    refine s1 (r_lt h27 h26) ?_
    refine wn ?_
    refine c_seq ?_
    refine c_cond rfl (fun h => (c_skip (t_n ?_))) (fun h => (c_exit (t_x (t_x (b_x (t_n ?_))))))
    · have hi : i < 2 := by simp at h; omega
      clear h
      obtain ⟨ai, ci, li, hg, hci, hacc⟩ := acc2_get (ca := ca) (cb := cb) p q h1 h2 i hi
      have hle := acc2_le p q (i + 1)
      rw [hacc, List.length_append] at hle
      refine c_seq ?_
      refine c_block ?_
      refine c_sreg rfl ?_
      refine s1 (r_ix h25 h27 (by omega) (by omega) (H.some hg)) ?_
      refine s1 (r_ldc rfl (mm.ro H) hg) ?_
      refine s1 (r_ass rfl) ?_
      refine wn ?_
      refine c_region rfl ?_
      refine s1 (r_mvs h6) ?_
      refine s1 (r_mvs rfl) ?_
      refine so (o_ap mm 0 rfl rfl rfl (src_cells (n := li.length) (mm.ro hci) (by rw [u8s_length]; omega) (ones_u8s _) (by decide)) (by omega) (by unfold maxLen; omega) fun a3 c3 w3 mm => ?_)
      refine s1 (r_ass rfl) ?_
      refine wn (b_n (t_n ?_))
      have mm := mm.pk [0] (by decide)
      have h9 := mm.cst1 (n' := (acc2 p q (i + 1)).length) (cs' := u8s (acc2 p q (i + 1))) (by rw [hacc, List.length_append]) (by rw [hacc, u8s_append])
      refine c_region rfl ?_
      refine s1 (r_add h27 rfl (wi (by omega) (by omega))) ?_
      refine s1 (r_mvi rfl) ?_
      refine wn (t_n ?_)
      refine ⟨k - 1, by omega, i + 1, _, _, by omega, ?_, h25, h26, rfl, h9⟩
      rw [hacc, List.length_append]; rfl
    · have hi : i = 2 := by simp at h; omega
      subst hi
      refine c_sreg rfl ?_
      refine s1 (r_mvs h6) ?_
      refine s1 (r_ass rfl) ?_
      refine wn ?_
      exact c_ret (ret1 rfl rfl ⟨_, _, rfl, mm.chg, mm.isNew 0 rfl⟩)

theorem bk_cells {w0 w : World} {F0 : Nat → Prop} {L : List It} (mm : Mem w0 F0 w L) (k : Nat) {b : Nat} {cs : List Value} {T : TypeId} (hk : nth L k = some (bk b cs T)) : Cells w (some ⟨b, 0, none⟩) cs := fun j v hj => by
  have hb := mm.b k hk
  refine ⟨_, rfl, ?_⟩
  have : (⟨b, 0, none⟩ : Addr).add j = ⟨b, j, none⟩ := by unfold Addr.add; split <;> simp_all
  rw [this, cell_of_row w b j _ _ _ hb, List.getElem?_toArray, ← nth_eq]; exact hj
theorem c_seal (b : List UInt8) (hb : b.length ≤ 1000000000000) (v : Value) (w : World) (hs : Sl w v b) : Cl Try.prog 36 #[v] w (fun v w' => ∃ a c, v = .slice a (sealL b).length c ∧ Chg No w w' ∧ New w w' (own 5 1 a (sealL b).length c (u8s (sealL b)))) := by
  have hs' := hs
  obtain ⟨a, c, rfl, hc, H⟩ := hs
  refine f_enter (args := [_]) Try.func36 rfl rfl ?_
  have mm := Mem.nil No w
  refine c_sreg rfl ?_
  refine s1 (r_ass rfl) ?_
  refine wn ?_
  refine c_sreg rfl ?_
  refine s1 (r_mvs rfl) ?_
  refine so (o_c1 rfl (c_sum b (by omega) _ _ ⟨a, c, rfl, hc, mm.ro H⟩) ?_)
  rintro _ w2 ⟨rfl, hc⟩
  have mm := mm.frame hc
  refine so (o_c1 rfl (c_four _ _) ?_)
  rintro _ w3 ⟨rfl, hc⟩
  have mm := mm.frame hc
  refine so (o_al mm fun b4 w4 mm => ?_)
  refine ss (o_sta mm 0 rfl rfl rfl rfl rfl (Nat.le_of_ble_eq_true rfl) fun w5 mm => ?_)
  refine wn ?_
  refine c_sreg rfl ?_
  refine s1 (r_mvs rfl) ?_
  refine s1 (r_sarr rfl) ?_
  refine so (o_bs2 mm rfl rfl rfl rfl fun a6 c6 w6 mm => ?_)
  refine so (o_c1 rfl (c_concat2 b (four (crcSum b)) (by rw [four_length]; omega) _ (mm.c 1 rfl) (mm.ro H) (bk_cells mm 0 rfl)) ?_)
  rintro _ w7 ⟨a7, c7, rfl, hc, hn⟩
  have mm := mm.new hc hn
  refine s1 (r_ass rfl) ?_
  refine wn ?_
  exact c_ret (ret1 rfl rfl ⟨_, _, rfl, mm.chg, mm.isNew 2 rfl⟩)

theorem c_clone (b : List UInt8) (hb : b.length ≤ 1099511627776) (v : Value) (w : World) (hs : Sl w v b) : Cl Try.prog 86 #[v] w (fun v w' => ∃ a c, v = .slice a b.length c ∧ Chg No w w' ∧ New w w' (own 5 1 a b.length c (u8s b))) := by
  obtain ⟨a, c, rfl, hc, H⟩ := hs
  refine f_enter (args := [_]) Try.func86 rfl rfl ?_
  have mm := Mem.nil No w
  refine c_sreg rfl ?_
  refine s1 (r_ass rfl) ?_
  refine wn ?_
  refine c_seq ?_
  refine c_sreg rfl ?_
  refine s1 (r_mvs rfl) ?_
  refine s1 (r_snil rfl rfl) ?_
  refine wn ?_
  refine c_cond rfl (fun h => ?_) (fun h => (c_skip (t_n ?_)))
  · have ha : a = none := by simpa using h
    subst ha
    have hb0 : b = [] := by
      cases b with
      | nil => rfl
      | cons x l => obtain ⟨_, h1, _⟩ := H 0 (u8 x) rfl; cases h1
    subst hb0
    refine c_sreg rfl ?_
    refine s1 (r_ass rfl) ?_
    refine wn ?_
    have mm := mm.nilrow (T := 5) (sz := 1)
    exact c_ret (ret1 rfl rfl ⟨none, 0, rfl, mm.chg, mm.isNew 0 rfl⟩)
  · clear h
    refine c_sreg rfl ?_
    refine so (o_bs0 mm fun a2 c2 w2 mm => ?_)
    refine s1 (r_mvs rfl) ?_
    refine so (o_ap mm 0 rfl rfl rfl (src_cells (n := b.length) (mm.ro H) (by rw [u8s_length]; omega) (ones_u8s _) (by decide)) (by omega) (by unfold maxLen; omega) fun a3 c3 w3 mm => ?_)
    refine s1 (r_ass rfl) ?_
    refine wn ?_
    have mm := mm.pk [0] (by decide)
    have h9 := mm.cst1 (n' := b.length) (cs' := u8s b) (Nat.zero_add _) rfl
    refine c_ret (ret1 rfl rfl ⟨_, _, ?_, mm.chg, h9.isNew 0 rfl⟩)
    show Value.slice _ (0 + b.length) _ = _
    rw [Nat.zero_add]

/-! arrays of four bytes, compared -/
theorem ar4_guard : Try.prog.eqGuardType Try.prog.depth 96 = false := by kernel_rfl
theorem ar4_key : Try.prog.keyTypeAt 2 96 = true := by kernel_rfl
theorem cells96 : Try.prog.cellsOf 96 = 4 := by kernel_rfl
theorem cells5u : Try.prog.cellsOf 5 = 1 := by kernel_rfl
def u8L (b : UInt8) : Lit := .int .u8 b.toNat
theorem lit_u8 {D : Nat} (b : UInt8) : Try.prog.keyLits (D + 1) 5 [u8 b] = some [u8L b] := by
  have h := b.toNat_lt
  unfold Program.keyLits
  rw [Try.underlying5]
  refine if_pos ⟨rfl, ?_⟩
  simp [Lit.wf, IntKind.min, IntKind.max, IntKind.signed, IntKind.bits]
  omega
theorem ar4_lits (b0 b1 b2 b3 : UInt8) : Try.prog.keyLits 3 96 (u8s [b0, b1, b2, b3]) = some [u8L b0, u8L b1, u8L b2, u8L b3] := by
  unfold Program.keyLits
  rw [Try.underlying96]
  simp only [cells5u, cells96]
  rw [if_pos (show (u8s [b0, b1, b2, b3]).length = 4 from rfl)]
  have e0 := lit_u8 (D := 1) b0
  have e1 := lit_u8 (D := 1) b1
  have e2 := lit_u8 (D := 1) b2
  have e3 := lit_u8 (D := 1) b3
  simp [List.range, List.range.loop, u8s, e0, e1, e2, e3]
theorem ar4_eq (x y : List UInt8) (hx : x.length = 4) (hy : y.length = 4) (w : World) : (Op.equalIn 10000 96 (.agg (u8s x).toArray) (.agg (u8s y).toArray)).run Try.prog w = .ok (decide (x = y)) w := by
  match x, hx, y, hy with
  | [a0, a1, a2, a3], _, [b0, b1, b2, b3], _ =>
    refine run_eqa ar4_key (by decide) (by kernel_rfl) (by kernel_rfl) (ar4_lits a0 a1 a2 a3) (ar4_lits b0 b1 b2 b3) ?_
    simp only [List.cons.injEq, and_true, u8L, Lit.int.injEq, true_and]
    have key : ∀ a b : UInt8, ((a.toNat : Int) = (b.toNat : Int)) ↔ a = b := fun a b => ⟨fun h => UInt8.toNat_inj.1 (by omega), fun h => by rw [h]⟩
    rw [key, key, key, key]
/-- What Open gives: the bytes and true, or none and false. -/
def openV (b : List UInt8) : List UInt8 := (openL b).getD []
theorem c_open (b : List UInt8) (hb : b.length ≤ 1099511627776) (v : Value) (w : World) (hs : Sl w v b) : Cl Try.prog 64 #[v] w (fun v w' => ∃ a c, v = .tuple #[.slice a (openV b).length c, .bool (openL b).isSome] ∧ Chg No w w' ∧ New w w' (own 5 1 a (openV b).length c (u8s (openV b)))) := by
  have hs' := hs
  obtain ⟨a, c, rfl, hcc, H⟩ := hs
  refine f_enter (args := [_]) Try.func64 rfl rfl ?_
  have mm := Mem.nil No w
  refine c_sreg rfl ?_
  refine s1 (r_ass rfl) ?_
  refine s1 (r_asb rfl) ?_
  refine wn ?_
  refine c_sreg rfl ?_
  refine s1 (r_mvs rfl) ?_
  refine s1 (r_len rfl) ?_
  refine s1 (r_sub rfl rfl (wi (by omega) (by omega))) ?_
  refine s1 (r_asi rfl) ?_
  refine wn ?_
  have hd : ∀ w', Cells w' a (u8s b) → (!(decide (((b.length : Nat) : Int) - 4 < 0))) = true → Sl w' (.slice a (((b.length : Nat) : Int) - 4).toNat c) (b.take (b.length - 4)) := fun w' hq hh => by
    simp at hh
    have h4 : (((b.length : Nat) : Int) - 4).toNat = b.length - 4 := by omega
    exact ⟨a, c, by rw [h4, List.length_take]; congr 1; omega, by rw [List.length_take]; omega, by rw [u8s, List.map_take]; exact hq.take _⟩
  have hls : (!(decide (((b.length : Nat) : Int) - 4 < 0))) = true → (b.drop (b.length - 4)).length = 4 := fun hh => by simp at hh; rw [List.length_drop]; omega
  have hseg : (!(decide (((b.length : Nat) : Int) - 4 < 0))) = true → seg ((u8s b).drop ((((b.length : Nat) : Int) - 4).toNat * 1)) 0 4 = u8s (b.drop (b.length - 4)) := fun hh => by
    have h1 := hls hh
    simp at hh
    have h4 : (((b.length : Nat) : Int) - 4).toNat = b.length - 4 := by omega
    unfold seg
    rw [h4, Nat.mul_one, List.drop_zero, u8s, ← List.map_drop, List.take_of_length_le]
    · rfl
    · rw [List.length_map, h1]; exact Nat.le_refl _
  refine c_seq ?_
  refine c_sdraw mixed [(0, true), (1, true), (2, true), (3, true), (4, true), (5, true), (8, true), (9, true), (10, true), (11, true), (12, true), (6, false), (7, false), (13, true), (14, true)] [true, true, true, true, true, true, true, true, true, true, true, true, true, true, true] (Sof mm) (by kernel_rfl) rfl rfl (by kernel_rfl) (fun w2 hc => ?_)
  have mm := mm.frame hc
  refine p1 rfl (fun w m => r_mvi rfl) mm ?_
  refine p1 rfl (fun w m => r_lt rfl rfl) mm ?_
  refine p1 rfl (fun w m => r_mvb rfl) mm ?_
  refine pF rfl rfl rfl (fun h w m => r_mvs rfl) mm ?_
  refine pF rfl rfl rfl (fun h w m => r_mvi rfl) mm ?_
  refine pF rfl rfl rfl (fun h w m => r_slh (sel_t h :) (sel_t h :) (by simp at h; omega) (by simp at h; omega)) mm ?_
  refine pF rfl rfl rfl (fun h w m => r_mvs rfl) mm ?_
  refine pF rfl rfl rfl (fun h w m => r_mvi rfl) mm ?_
  refine pF rfl rfl rfl (fun h w m => r_sll (sel_t h :) (sel_t h :) (by simp at h; omega) (by simp at h; omega)) mm ?_
  refine pF rfl rfl rfl (fun h w m => r_s2a (sel_t h :) (by simp at h ⊢; omega)) mm ?_
  refine pF rfl rfl rfl (fun h w m => r_ldce (sel_t h :) (m.ro ((H.sl (n := b.length) (sz := 1) (by rw [u8s_length]; omega) hcc (((b.length : Nat) : Int) - 4).toNat))) (hseg h) (by simp at h; rw [List.length_drop, u8s_length]; omega) (by decide)) mm ?_
  refine pFw (I := Sof mm) rfl rfl rfl mm (fun h => o_c1 (sel_t h :) (c_sum (b.take (b.length - 4)) (by rw [List.length_take]; omega) _ _ (hd _ (mm.ro H) h)) (fun _ _ hh => ⟨hh.1, mm.frame hh.2⟩)) (fun w3 mm => ⟨fun _ => mm, ?_⟩)
  refine pFw (I := Sof mm) rfl rfl rfl mm (fun h => o_c1 (sel_t h :) (c_four _ _) (fun _ _ hh => ⟨hh.1, mm.frame hh.2⟩)) (fun w4 mm => ⟨fun _ => mm, ?_⟩)
  refine pF rfl rfl rfl (fun h w m => r_nea ar4_guard (ar4_eq _ _ rfl (hls h)) (sel_t h :) (sel_t h :)) mm ?_
  refine p1 rfl (fun w m => r_or rfl rfl) mm ?_
  refine pn ?_
  refine c_cond rfl (fun h => ?_) (fun h => (c_skip (t_n ?_)))
  · have hn : openL b = none := by
      unfold openL
      by_cases h4 : b.length < 4
      · rw [if_pos h4]
      · rw [if_neg h4]
        refine if_neg ?_
        intro hq
        rw [hq] at h
        simp at h
        omega
    refine c_sreg rfl ?_
    refine s1 (r_ass rfl) ?_
    refine s1 (r_asb rfl) ?_
    refine wn ?_
    have hv : openV b = [] := by unfold openV; rw [hn]; rfl
    rw [hv, hn]
    have mm := mm.nilrow (T := 5) (sz := 1)
    exact c_ret (ret2 rfl rfl rfl ⟨none, 0, rfl, mm.chg, mm.isNew 0 rfl⟩)
  · have h4 : ¬ b.length < 4 ∧ four (crcSum (b.take (b.length - 4))) = b.drop (b.length - 4) := by
      simp at h
      have h4 : ¬ b.length < 4 := by omega
      exact ⟨h4, h.2⟩
    have hn : openL b = some (b.take (b.length - 4)) := by
      unfold openL
      rw [if_neg h4.1, if_pos h4.2]
    have hv : openV b = b.take (b.length - 4) := by unfold openV; rw [hn]; rfl
    rw [hv, hn]
    clear h
    refine c_sreg rfl ?_
    refine s1 (r_mvs rfl) ?_
    refine s1 (r_mvi rfl) ?_
    refine s1 (r_slh rfl rfl (by omega) (by omega)) ?_
    refine so (o_c1 rfl (c_clone (b.take (b.length - 4)) (by rw [List.length_take]; omega) _ _ (hd _ (mm.ro H) (by simp; omega))) ?_)
    rintro _ w5 ⟨a5, c5, rfl, hc, hn'⟩
    have mm := mm.new hc hn'
    refine s1 (r_ass rfl) ?_
    refine s1 (r_asb rfl) ?_
    refine wn ?_
    exact c_ret (ret2 rfl rfl rfl ⟨_, _, rfl, mm.chg, mm.isNew 0 rfl⟩)
end Go.Proofs.Ytgdbbaggkoillaa
