/- The sum, plain: bit by bit, byte by byte; a burst of at most 32 bits never goes unseen. -/
import Derived.Test.YtbcpabfemejlgaaM2
namespace Go.Proofs.Ytbcpabfemejlgaa
open K

def poly : BitVec 32 := 0xEDB88320#32
/-- One bit's step. -/
def crcM (r : BitVec 32) : BitVec 32 := (r >>> 1) ^^^ (poly &&& -(r &&& 1#32))
def crcIt : Nat → BitVec 32 → BitVec 32
  | 0, r => r
  | n + 1, r => crcM (crcIt n r)
def crcStep (r : BitVec 32) (c : UInt8) : BitVec 32 := crcIt 8 (r ^^^ c.toBitVec.setWidth 32)
def crcReg (r : BitVec 32) (l : List UInt8) : BitVec 32 := l.foldl crcStep r
def crcSum (l : List UInt8) : BitVec 32 := crcReg (BitVec.allOnes 32) l ^^^ BitVec.allOnes 32
def four (s : BitVec 32) : List UInt8 := [UInt8.ofNat s.toNat, UInt8.ofNat (s.toNat / 2 ^ 8), UInt8.ofNat (s.toNat / 2 ^ 16), UInt8.ofNat (s.toNat / 2 ^ 24)]
def sealL (b : List UInt8) : List UInt8 := b ++ four (crcSum b)
/-- What is sealed, opened: none if the sum is not right. -/
def openL (b : List UInt8) : Option (List UInt8) := if b.length < 4 then none else if four (crcSum (b.take (b.length - 4))) = b.drop (b.length - 4) then some (b.take (b.length - 4)) else none
theorem four_length (s : BitVec 32) : (four s).length = 4 := rfl
theorem sealL_length (b : List UInt8) : (sealL b).length = b.length + 4 := by simp [sealL, four_length]
theorem openL_seal (b : List UInt8) : openL (sealL b) = some b := by
  have h := sealL_length b
  unfold openL
  rw [if_neg (by omega)]
  have h1 : (sealL b).length - 4 = b.length := by omega
  rw [h1]
  have h2 : (sealL b).take b.length = b := by simp [sealL]
  have h3 : (sealL b).drop b.length = four (crcSum b) := by simp [sealL]
  rw [h2, h3, if_pos rfl]
theorem openL_some {b l : List UInt8} (h : openL b = some l) : b = sealL l := by
  unfold openL at h
  split at h
  · cases h
  · split at h
    · rename_i h1
      injection h with h
      subst h
      unfold sealL
      rw [h1, List.take_append_drop]
    · cases h

/-! ### linear -/
theorem crcM_if (r : BitVec 32) : crcM r = if r.getLsbD 0 then (r >>> 1) ^^^ poly else r >>> 1 := by
  unfold crcM
  have h : r &&& 1#32 = if r.getLsbD 0 then 1#32 else 0#32 := by
    apply BitVec.eq_of_getLsbD_eq
    intro i hi
    rw [BitVec.getLsbD_and]
    rcases Nat.eq_zero_or_pos i with rfl | hp
    · cases r.getLsbD 0 <;> simp
    · have : (1#32).getLsbD i = false := by simp [BitVec.getLsbD_one]; omega
      rw [this, Bool.and_false]
      split
      · exact this.symm
      · simp
  rw [h]
  cases r.getLsbD 0
  · simp
  · have : -(1#32) = BitVec.allOnes 32 := by decide
    simp only [if_true, this]
    rw [BitVec.and_allOnes]
theorem crcM_xor (r s : BitVec 32) : crcM (r ^^^ s) = crcM r ^^^ crcM s := by
  rw [crcM_if, crcM_if, crcM_if, BitVec.getLsbD_xor, BitVec.ushiftRight_xor_distrib]
  cases r.getLsbD 0 <;> cases s.getLsbD 0 <;> simp
  · rw [BitVec.xor_assoc]
  · rw [BitVec.xor_assoc, BitVec.xor_comm (s >>> 1) poly, ← BitVec.xor_assoc]
  · rw [BitVec.xor_assoc (r >>> 1), ← BitVec.xor_assoc poly, BitVec.xor_comm poly (s >>> 1), BitVec.xor_assoc (s >>> 1), BitVec.xor_self, BitVec.xor_zero]
theorem crcM_zero : crcM 0#32 = 0#32 := by decide
theorem crcM_inj0 {r : BitVec 32} (h : crcM r = 0#32) : r = 0#32 := by
  rw [crcM_if] at h
  cases h0 : r.getLsbD 0 with
  | false =>
    rw [h0] at h
    simp only [Bool.false_eq_true, if_false] at h
    apply BitVec.eq_of_getLsbD_eq
    intro i hi
    rcases Nat.eq_zero_or_pos i with rfl | hp
    · rw [h0]; simp
    · have h1 := congrArg (fun x => BitVec.getLsbD x (i - 1)) h
      simp only [BitVec.getLsbD_ushiftRight] at h1
      rw [show 1 + (i - 1) = i from by omega] at h1
      rw [h1]; simp
  | true =>
    rw [h0] at h
    simp only [if_true] at h
    have h1 := congrArg (fun x => BitVec.getLsbD x 31) h
    simp only [BitVec.getLsbD_xor, BitVec.getLsbD_ushiftRight] at h1
    rw [BitVec.getLsbD_of_ge r (1 + 31) (by decide)] at h1
    have : poly.getLsbD 31 = true := by decide
    rw [this] at h1
    simp at h1
theorem crcIt_xor (r s : BitVec 32) : ∀ n, crcIt n (r ^^^ s) = crcIt n r ^^^ crcIt n s
  | 0 => rfl
  | n + 1 => by rw [crcIt, crcIt_xor r s n, crcM_xor]; rfl
theorem crcIt_zero : ∀ n, crcIt n 0#32 = 0#32
  | 0 => rfl
  | n + 1 => by rw [crcIt, crcIt_zero n]; exact crcM_zero
theorem crcIt_inj0 {r : BitVec 32} : ∀ n, crcIt n r = 0#32 → r = 0#32
  | 0, h => h
  | n + 1, h => crcIt_inj0 n (crcM_inj0 h)
theorem crcIt_add (r : BitVec 32) (m : Nat) : ∀ n, crcIt n (crcIt m r) = crcIt (n + m) r
  | 0 => by rw [Nat.zero_add]; rfl
  | n + 1 => by rw [Nat.succ_add]; exact congrArg crcM (crcIt_add r m n)

/-! ### bits -/
def bitB (b : Bool) : BitVec 32 := if b then 1#32 else 0#32
def feed (r : BitVec 32) (b : Bool) : BitVec 32 := crcM (r ^^^ bitB b)
def bitsOf (c : UInt8) : List Bool := (List.range 8).map fun i => c.toNat.testBit i
def bitsL (l : List UInt8) : List Bool := l.flatMap bitsOf
theorem crcM_even (r : BitVec 32) (h : r.getLsbD 0 = false) : crcM r = r >>> 1 := by rw [crcM_if, h]; simp
/-- The rest of a byte waits above. -/
theorem step_bits (c : Nat) (hc : c < 256) (r : BitVec 32) : ∀ n, n ≤ 8 → crcIt n (r ^^^ BitVec.ofNat 32 c) = (((List.range n).map fun i => c.testBit i).foldl feed r) ^^^ BitVec.ofNat 32 (c / 2 ^ n)
  | 0, _ => by simp [crcIt]
  | n + 1, hn => by
    have ih := step_bits c hc r n (by omega)
    rw [crcIt, ih, List.range_succ, List.map_append, List.foldl_append]
    simp only [List.map_cons, List.map_nil, List.foldl_cons, List.foldl_nil]
    generalize List.foldl feed r (List.map (fun i => c.testBit i) (List.range n)) = q
    unfold feed
    have hs : BitVec.ofNat 32 (c / 2 ^ n) = bitB (c.testBit n) ^^^ BitVec.ofNat 32 (2 * (c / 2 ^ (n + 1))) := by
      have h2 : c / 2 ^ (n + 1) = c / 2 ^ n / 2 := by rw [Nat.pow_succ, Nat.div_div_eq_div_mul]
      have hb : c.testBit n = decide (c / 2 ^ n % 2 = 1) := Nat.testBit_eq_decide_div_mod_eq
      rw [h2, hb]
      have hx : c / 2 ^ n < 256 := Nat.lt_of_le_of_lt (Nat.div_le_self _ _) hc
      generalize c / 2 ^ n = x at hx
      have key : ∀ y : Fin 256, BitVec.ofNat 32 y.val = bitB (decide (y.val % 2 = 1)) ^^^ BitVec.ofNat 32 (2 * (y.val / 2)) := by decide +kernel
      exact key ⟨x, hx⟩
    rw [hs, ← BitVec.xor_assoc, crcM_xor]
    congr 1
    have hx : c / 2 ^ (n + 1) < 256 := Nat.lt_of_le_of_lt (Nat.div_le_self _ _) hc
    generalize c / 2 ^ (n + 1) = x at hx
    have key : ∀ y : Fin 256, crcM (BitVec.ofNat 32 (2 * y.val)) = BitVec.ofNat 32 y.val := by decide +kernel
    exact key ⟨x, hx⟩
theorem step_feed (r : BitVec 32) (c : UInt8) : crcStep r c = (bitsOf c).foldl feed r := by
  have hc := c.toNat_lt
  have h := step_bits c.toNat hc r 8 (by omega)
  have h1 : c.toNat / 2 ^ 8 = 0 := Nat.div_eq_of_lt hc
  rw [h1, BitVec.xor_zero] at h
  unfold crcStep bitsOf
  rw [← h]
  congr 2
  apply BitVec.eq_of_toNat_eq
  rw [BitVec.toNat_setWidth, BitVec.toNat_ofNat]; rfl
theorem reg_feed : ∀ (l : List UInt8) (r : BitVec 32), crcReg r l = (bitsL l).foldl feed r
  | [], r => rfl
  | c :: l, r => by
    show crcReg (crcStep r c) l = _
    rw [reg_feed l, step_feed]
    simp only [bitsL, List.flatMap_cons, List.foldl_append]
theorem feed_xor (r s : BitVec 32) (a b : Bool) : feed (r ^^^ s) (a ^^ b) = feed r a ^^^ feed s b := by
  unfold feed
  rw [← crcM_xor]
  congr 1
  have : bitB (a ^^ b) = bitB a ^^^ bitB b := by cases a <;> cases b <;> decide
  rw [this, BitVec.xor_assoc, BitVec.xor_assoc]
  congr 1
  rw [← BitVec.xor_assoc, BitVec.xor_comm s, BitVec.xor_assoc]
def xorB : List Bool → List Bool → List Bool := List.zipWith (· ^^ ·)
theorem feeds_xor : ∀ (l m : List Bool) (r s : BitVec 32), l.length = m.length → (xorB l m).foldl feed (r ^^^ s) = l.foldl feed r ^^^ m.foldl feed s
  | [], [], r, s, _ => rfl
  | a :: l, b :: m, r, s, h => by
    show (xorB l m).foldl feed (feed (r ^^^ s) (a ^^ b)) = _
    rw [feed_xor]
    exact feeds_xor l m _ _ (by simpa using h)
  | [], _ :: _, _, _, h => by simp at h
  | _ :: _, [], _, _, h => by simp at h
theorem feed_zeros : ∀ (n : Nat), (List.replicate n false).foldl feed 0#32 = 0#32
  | 0 => rfl
  | n + 1 => by
    show (List.replicate n false).foldl feed (feed 0#32 false) = _
    have : feed 0#32 false = 0#32 := by decide
    rw [this]; exact feed_zeros n
theorem feed_zeros_inj : ∀ (n : Nat) (r : BitVec 32), (List.replicate n false).foldl feed r = 0#32 → r = 0#32
  | 0, r, h => h
  | n + 1, r, h => by
    have h1 := feed_zeros_inj n (feed r false) h
    unfold feed at h1
    have h2 := crcM_inj0 h1
    simpa [bitB] using h2
/-- The word whose bits these are, the first one lowest. -/
def wordOf : List Bool → Nat
  | [] => 0
  | b :: l => b.toNat + 2 * wordOf l
theorem wordOf_append (l : List Bool) (b : Bool) : wordOf (l ++ [b]) = wordOf l + 2 ^ l.length * b.toNat := by
  induction l with
  | nil => simp [wordOf]
  | cons a l ih =>
    simp only [List.cons_append, wordOf, ih, List.length_cons, Nat.pow_succ]
    rw [Nat.mul_add]
    have : 2 * (2 ^ l.length * b.toNat) = 2 ^ l.length * 2 * b.toNat := by rw [Nat.mul_comm (2 ^ l.length) 2, Nat.mul_assoc]
    omega
theorem wordOf_lt : ∀ l : List Bool, wordOf l < 2 ^ l.length
  | [] => by decide
  | b :: l => by
    have := wordOf_lt l
    have hb : b.toNat ≤ 1 := by cases b <;> decide
    simp only [wordOf, List.length_cons, Nat.pow_succ]
    omega
theorem wordOf_zero : ∀ l : List Bool, wordOf l = 0 → ∀ b ∈ l, b = false
  | [], _, b, h => by cases h
  | a :: l, h, b, hb => by
    simp only [wordOf] at h
    rcases List.mem_cons.1 hb with rfl | hb
    · cases b with
      | false => rfl
      | true => simp at h
    · refine wordOf_zero l ?_ b hb
      omega
theorem crcIt_pow (n : Nat) (hn : n < 32) : crcIt n (BitVec.ofNat 32 (2 ^ n)) = 1#32 := by
  have key : ∀ y : Fin 32, crcIt y.val (BitVec.ofNat 32 (2 ^ y.val)) = 1#32 := by decide +kernel
  exact key ⟨n, hn⟩
theorem feed_word : ∀ (n : Nat) (l : List Bool), l.length = n → n ≤ 32 → l.foldl feed 0#32 = crcIt n (BitVec.ofNat 32 (wordOf l)) := by
  intro n
  induction n with
  | zero => intro l hl _; rw [List.eq_nil_of_length_eq_zero hl]; rfl
  | succ n ih =>
    intro l hl hn
    obtain ⟨m, b, rfl⟩ : ∃ m b, l = m ++ [b] := ⟨l.dropLast, l.getLast (by intro h; subst h; simp at hl), (List.dropLast_concat_getLast _).symm⟩
    have hm : m.length = n := by simpa using hl
    rw [List.foldl_append, ih m hm (by omega)]
    show crcM (crcIt n (BitVec.ofNat 32 (wordOf m)) ^^^ bitB b) = crcM (crcIt n (BitVec.ofNat 32 (wordOf (m ++ [b]))))
    congr 1
    rw [wordOf_append, hm]
    cases b with
    | false => simp [bitB]
    | true =>
      have hlt : wordOf m < 2 ^ n := hm ▸ wordOf_lt m
      have h1 : bitB true = crcIt n (BitVec.ofNat 32 (2 ^ n)) := (crcIt_pow n (by omega)).symm
      rw [h1, ← crcIt_xor]
      congr 1
      have h2 : wordOf m + 2 ^ n * true.toNat = wordOf m ^^^ 2 ^ n := by
        have h3 := Nat.two_pow_add_eq_or_of_lt hlt 1
        have h4 : true.toNat = 1 := rfl
        have h5 : (2 ^ n * 1) &&& wordOf m = 0 := by
          rw [Nat.mul_one]
          apply Nat.eq_of_testBit_eq
          intro i
          rw [Nat.testBit_and, Nat.zero_testBit, Nat.testBit_two_pow]
          by_cases hi : n = i
          · subst hi
            rw [Nat.testBit_lt_two_pow hlt, Bool.and_false]
          · simp [hi]
        rw [h4, Nat.add_comm, h3, Nat.mul_one]
        rw [Nat.mul_one] at h5
        apply Nat.eq_of_testBit_eq
        intro i
        have h6 := congrArg (fun x => Nat.testBit x i) h5
        simp only [Nat.testBit_and, Nat.zero_testBit] at h6
        rw [Nat.testBit_or, Nat.testBit_xor]
        revert h6
        generalize (2 ^ n).testBit i = u
        generalize (wordOf m).testBit i = v
        cases u <;> cases v <;> decide
      rw [h2, BitVec.ofNat_xor]
/-- Zeros, at most 32 bits not all zero, zeros: not zero. -/
theorem burst_seen (i j : Nat) (l : List Bool) (hl : l.length ≤ 32) (h : (List.replicate i false ++ l ++ List.replicate j false).foldl feed 0#32 = 0#32) : ∀ b ∈ l, b = false := by
  rw [List.foldl_append, List.foldl_append, feed_zeros] at h
  have h1 := feed_zeros_inj j _ h
  rw [feed_word l.length l rfl hl] at h1
  have h2 := crcIt_inj0 _ h1
  refine wordOf_zero l ?_
  have h3 := congrArg BitVec.toNat h2
  rw [BitVec.toNat_ofNat, Nat.mod_eq_of_lt (Nat.lt_of_lt_of_le (wordOf_lt l) (Nat.pow_le_pow_right (by decide) hl))] at h3
  simpa using h3

/-! ### the sum behind the bytes: a fixed rest -/
theorem bits_byte (n k : Nat) : bitsOf (UInt8.ofNat (n / 2 ^ (8 * k))) = (List.range 8).map fun j => n.testBit (8 * k + j) := by
  unfold bitsOf
  apply List.map_congr_left
  intro j hj
  have hj : j < 8 := List.mem_range.1 hj
  rw [UInt8.toNat_ofNat', Nat.testBit_mod_two_pow, Nat.testBit_div_two_pow, decide_eq_true hj, Bool.true_and, Nat.add_comm j]
theorem bits_four (x : BitVec 32) : bitsL (four x) = (List.range 32).map fun j => x.getLsbD j := by
  have h0 := bits_byte x.toNat 0
  have h1 := bits_byte x.toNat 1
  have h2 := bits_byte x.toNat 2
  have h3 := bits_byte x.toNat 3
  rw [Nat.mul_zero, Nat.pow_zero, Nat.div_one] at h0
  unfold bitsL four
  simp only [List.flatMap_cons, List.flatMap_nil]
  have e0 : bitsOf (UInt8.ofNat x.toNat) = _ := h0
  have e1 : bitsOf (UInt8.ofNat (x.toNat / 2 ^ 8)) = _ := h1
  have e2 : bitsOf (UInt8.ofNat (x.toNat / 2 ^ 16)) = _ := h2
  have e3 : bitsOf (UInt8.ofNat (x.toNat / 2 ^ 24)) = _ := h3
  rw [e0, e1, e2, e3]
  rfl
theorem reg_four_n (x : BitVec 32) : ∀ n, n ≤ 32 → ((List.range n).map fun j => x.getLsbD j).foldl feed x = x >>> n
  | 0, _ => by simp
  | n + 1, hn => by
    rw [List.range_succ, List.map_append, List.foldl_append, reg_four_n x n (by omega)]
    show crcM (x >>> n ^^^ bitB (x.getLsbD n)) = _
    have hb : (x >>> n ^^^ bitB (x.getLsbD n)).getLsbD 0 = false := by
      rw [BitVec.getLsbD_xor, BitVec.getLsbD_ushiftRight, Nat.add_zero]
      cases x.getLsbD n <;> decide
    rw [crcM_even _ hb, BitVec.ushiftRight_xor_distrib]
    have : bitB (x.getLsbD n) >>> 1 = 0#32 := by cases x.getLsbD n <;> decide
    rw [this, BitVec.xor_zero, ← BitVec.shiftRight_add]
theorem reg_four (x : BitVec 32) : crcReg x (four x) = 0#32 := by
  rw [reg_feed, bits_four, reg_four_n x 32 (by decide)]
  apply BitVec.eq_of_getLsbD_eq
  intro i hi
  rw [BitVec.getLsbD_ushiftRight, BitVec.getLsbD_of_ge _ _ (by omega)]; simp
theorem xorB_map {α : Type} (l : List α) (f g : α → Bool) : xorB (l.map f) (l.map g) = l.map fun x => f x ^^ g x := by
  induction l with
  | nil => rfl
  | cons a l ih => simp only [List.map_cons, xorB, List.zipWith_cons_cons] at *; rw [ih]
theorem reg_append (r : BitVec 32) (a b : List UInt8) : crcReg r (a ++ b) = crcReg (crcReg r a) b := List.foldl_append
theorem reg_seal (b : List UInt8) : crcReg (BitVec.allOnes 32) (sealL b) = crcReg 0#32 (four (BitVec.allOnes 32)) := by
  unfold sealL crcSum
  rw [reg_append]
  generalize crcReg (BitVec.allOnes 32) b = x
  have h := feeds_xor (bitsL (four x)) (bitsL (four (BitVec.allOnes 32))) x 0#32 (by rw [bits_four, bits_four]; simp)
  rw [← reg_feed, ← reg_feed, reg_four, BitVec.zero_xor, BitVec.xor_zero] at h
  rw [reg_feed, ← h, bits_four, bits_four, bits_four, xorB_map]
  congr 1
  apply List.map_congr_left
  intro j _
  rw [BitVec.getLsbD_xor]
theorem bitsOf_inj {a b : UInt8} (h : bitsOf a = bitsOf b) : a = b := by
  apply UInt8.toNat_inj.1
  apply Nat.eq_of_testBit_eq
  intro i
  by_cases hi : i < 8
  · have h1 := congrArg (fun l => l[i]?) h
    simp only [bitsOf, List.getElem?_map, List.getElem?_range hi, Option.map_some] at h1
    injection h1
  · rw [Nat.testBit_lt_two_pow (Nat.lt_of_lt_of_le a.toNat_lt (Nat.pow_le_pow_right (by decide) (by omega))), Nat.testBit_lt_two_pow (Nat.lt_of_lt_of_le b.toNat_lt (Nat.pow_le_pow_right (by decide) (by omega)))]
theorem bitsOf_length (a : UInt8) : (bitsOf a).length = 8 := by simp [bitsOf]
theorem bitsL_cons (a : UInt8) (l : List UInt8) : bitsL (a :: l) = bitsOf a ++ bitsL l := List.flatMap_cons
theorem bitsL_length : ∀ l : List UInt8, (bitsL l).length = 8 * l.length
  | [] => rfl
  | a :: l => by rw [bitsL_cons, List.length_append, bitsOf_length, bitsL_length l, List.length_cons]; omega
theorem bitsL_inj : ∀ {a b : List UInt8}, bitsL a = bitsL b → a = b
  | [], [], _ => rfl
  | [], y :: b, h => by have := congrArg List.length h; rw [bitsL_length, bitsL_length] at this; simp at this
  | x :: a, [], h => by have := congrArg List.length h; rw [bitsL_length, bitsL_length] at this; simp at this
  | x :: a, y :: b, h => by
    rw [bitsL_cons, bitsL_cons] at h
    obtain ⟨h1, h2⟩ := List.append_inj h (by rw [bitsOf_length, bitsOf_length])
    rw [bitsOf_inj h1, bitsL_inj h2]
theorem xorB_false : ∀ (l m : List Bool), l.length = m.length → (∀ b ∈ xorB l m, b = false) → l = m
  | [], [], _, _ => rfl
  | a :: l, b :: m, h, hb => by
    have h1 : (a ^^ b) = false := hb _ (List.mem_cons_self ..)
    have h2 : a = b := by cases a <;> cases b <;> first | rfl | cases h1
    rw [h2, xorB_false l m (by simpa using h) (fun c hc => hb c (List.mem_cons_of_mem _ hc))]
  | [], _ :: _, h, _ => by simp at h
  | _ :: _, [], h, _ => by simp at h
/-- What a burst of at most 32 bits has turned does not open. -/
theorem open_burst (b t : List UInt8) (ht : t.length = (sealL b).length) (i j : Nat) (l : List Bool) (hl : l.length ≤ 32) (hx : xorB (bitsL t) (bitsL (sealL b)) = List.replicate i false ++ l ++ List.replicate j false) (hne : t ≠ sealL b) : openL t = none := by
  cases ho : openL t with
  | none => rfl
  | some m =>
    exfalso
    have hm := openL_some ho
    have hlen : (bitsL t).length = (bitsL (sealL b)).length := by rw [bitsL_length, bitsL_length, ht]
    have h := feeds_xor (bitsL t) (bitsL (sealL b)) (BitVec.allOnes 32) (BitVec.allOnes 32) hlen
    rw [← reg_feed, ← reg_feed, reg_seal b, hm, reg_seal m, BitVec.xor_self, BitVec.xor_self, ← hm, hx] at h
    have h1 := burst_seen i j l hl h
    apply hne
    apply bitsL_inj
    apply xorB_false _ _ hlen
    rw [hx]
    intro c hc
    simp only [List.mem_append, List.mem_replicate] at hc
    rcases hc with (hc | hc) | hc
    · exact hc.2
    · exact h1 c hc
    · exact hc.2

/-! ### in the model's words -/
theorem bits_toNat (x : BitVec 32) : BitVec.ofInt IntKind.u32.bits ((x.toNat : Nat) : Int) = x := by
  apply BitVec.eq_of_toNat_eq
  rw [BitVec.ofInt_natCast, BitVec.toNat_ofNat]
  exact Nat.mod_eq_of_lt x.isLt
theorem wrap_toNat (x : BitVec 32) : IntKind.u32.wrap ((x.toNat : Nat) : Int) = ((x.toNat : Nat) : Int) := wu32 (by omega) (by have := x.isLt; omega)
theorem bx32 (x y : BitVec 32) : bitv .xor .u32 ((x.toNat : Nat) : Int) ((y.toNat : Nat) : Int) = (((x ^^^ y).toNat : Nat) : Int) := by
  unfold bitv
  simp only [bits_toNat]
  exact wrap_toNat _
theorem ba32 (x y : BitVec 32) : bitv .and .u32 ((x.toNat : Nat) : Int) ((y.toNat : Nat) : Int) = (((x &&& y).toNat : Nat) : Int) := by
  unfold bitv
  simp only [bits_toNat]
  exact wrap_toNat _
theorem bs32 (x : BitVec 32) : ((x.toNat : Nat) : Int).fdiv (2 ^ (min (1 : Int).toNat IntKind.u32.bits)) = (((x >>> 1).toNat : Nat) : Int) := by
  rw [BitVec.toNat_ushiftRight, Nat.shiftRight_eq_div_pow]
  show ((x.toNat : Nat) : Int).fdiv 2 = ((x.toNat / 2 : Nat) : Int)
  rw [Int.fdiv_eq_ediv_of_nonneg _ (by decide)]
  omega
theorem bn32 (x : BitVec 32) : IntKind.u32.wrap (-((x.toNat : Nat) : Int)) = (((-x).toNat : Nat) : Int) := by
  have h := x.isLt
  rw [BitVec.toNat_neg]
  simp only [IntKind.wrap, IntKind.bits, IntKind.signed]
  simp
  omega
theorem bu32 (c : UInt8) : IntKind.u32.wrap ((c.toNat : Nat) : Int) = (((c.toBitVec.setWidth 32).toNat : Nat) : Int) := by
  have h := c.toNat_lt
  rw [wu32 (by omega) (by omega), BitVec.toNat_setWidth]
  congr 1
  have : c.toBitVec.toNat = c.toNat := rfl
  omega
theorem four_get (s : BitVec 32) (i : Nat) (h : i < 4) : Value.int .u8 (IntKind.u8.wrap (((s.toNat : Nat) : Int).fdiv (2 ^ (min (8 * (i : Int)).toNat IntKind.u32.bits)))) = u8 ((four s).getD i 0) := by
  have h1 : min (8 * (i : Int)).toNat IntKind.u32.bits = 8 * i := by show min (8 * (i : Int)).toNat 32 = 8 * i; omega
  rw [h1, Int.fdiv_eq_ediv_of_nonneg _ (Int.pow_nonneg (by decide))]
  have h2 : ((s.toNat : Nat) : Int) / (2 ^ (8 * i)) = ((s.toNat / 2 ^ (8 * i) : Nat) : Int) := by push_cast; rfl
  rw [h2]
  have key : (four s).getD i 0 = UInt8.ofNat (s.toNat / 2 ^ (8 * i)) := by
    match i, h with
    | 0, _ => simp [four] | 1, _ => rfl | 2, _ => rfl | 3, _ => rfl
  rw [key]
  simp [u8, IntKind.wrap, IntKind.bits, IntKind.signed]
end Go.Proofs.Ytbcpabfemejlgaa
/- What events, edits and their bytes are, without a program: plain functions. -/
namespace Go.Proofs.Ytbcpabfemejlgaa
open K

/-! ### numbers as bytes -/
def vput (n : Nat) : List UInt8 := if n < 128 then [UInt8.ofNat n] else UInt8.ofNat (n % 128 + 128) :: vput (n / 128)
decreasing_by omega
theorem vput_len (k : Nat) : ∀ n, n < 128 ^ (k + 1) → (vput n).length ≤ k + 1 := by
  induction k with
  | zero => intro n hn; rw [vput, if_pos (by omega)]; simp
  | succ k ih =>
    intro n hn
    rw [vput]
    split
    · simp
    · have := ih (n / 128) (by rw [Nat.div_lt_iff_lt_mul (by omega)]; rw [Nat.pow_succ] at hn; exact hn)
      simp; omega
theorem vput_len10 (n : Nat) (h : n < 2 ^ 64) : (vput n).length ≤ 10 := vput_len 9 n (by omega)
theorem vput_pos (n : Nat) : 0 < (vput n).length := by rw [vput]; split <;> simp
theorem u8_low (x : Nat) (h : x < 128) : .int .u8 (IntKind.u8.wrap x) = u8 (UInt8.ofNat x) := by
  simp [u8, IntKind.wrap, IntKind.bits, IntKind.signed]
theorem u8_any (x : Nat) : .int .u8 (IntKind.u8.wrap x) = u8 (UInt8.ofNat x) := by
  simp [u8, IntKind.wrap, IntKind.bits, IntKind.signed]
theorem u8_int (x : Int) (h : 0 ≤ x) : .int .u8 (IntKind.u8.wrap x) = u8 (UInt8.ofNat x.toNat) := by
  obtain ⟨n, rfl⟩ := Int.eq_ofNat_of_zero_le h
  exact u8_any n
theorem u8_more (x : Nat) : .int .u8 (bitv .or .u8 (IntKind.u8.wrap x) 128) = u8 (UInt8.ofNat (x % 128 + 128)) := by
  have h1 : IntKind.u8.wrap (x : Int) = ((x % 256 : Nat) : Int) := by simp [IntKind.wrap, IntKind.bits, IntKind.signed]
  have key : ∀ y : Fin 256, bitv .or .u8 ((y.val : Nat) : Int) 128 = ((y.val % 128 + 128 : Nat) : Int) := by decide +kernel
  have h2 := key ⟨x % 256, Nat.mod_lt _ (by decide)⟩
  rw [h1, h2]
  simp only [u8, UInt8.toNat_ofNat']
  congr 2
  omega

/-! ### what was seen -/
structure Clk where
  c0 : Int
  c1 : Int
  c2 : Int
  c3 : Int
  c4 : Int
deriving DecidableEq
def Clk.get (c : Clk) : Nat → Int
  | 0 => c.c0 | 1 => c.c1 | 2 => c.c2 | 3 => c.c3 | _ => c.c4
def Clk.set (c : Clk) (i : Nat) (v : Int) : Clk :=
  match i with
  | 0 => { c with c0 := v } | 1 => { c with c1 := v } | 2 => { c with c2 := v } | 3 => { c with c3 := v } | _ => { c with c4 := v }
def clkC (c : Clk) : List Value := [.int .i64 c.c0, .int .i64 c.c1, .int .i64 c.c2, .int .i64 c.c3, .int .i64 c.c4]
theorem nth_clk (c : Clk) (i : Nat) (h : i < 5) : nth (clkC c) i = some (.int .i64 (c.get i)) := by
  match i, h with
  | 0, _ => rfl | 1, _ => rfl | 2, _ => rfl | 3, _ => rfl | 4, _ => rfl
theorem setN_clk (c : Clk) (i : Nat) (h : i < 5) (v : Int) : setN (clkC c) i (.int .i64 v) = clkC (c.set i v) := by
  match i, h with
  | 0, _ => rfl | 1, _ => rfl | 2, _ => rfl | 3, _ => rfl | 4, _ => rfl
theorem Clk.get_set (c : Clk) (i j : Nat) (hi : i < 5) (hj : j < 5) (v : Int) : (c.set i v).get j = if i = j then v else c.get j := by
  match i, hi, j, hj with
  | 0, _, 0, _ => rfl | 0, _, 1, _ => rfl | 0, _, 2, _ => rfl | 0, _, 3, _ => rfl | 0, _, 4, _ => rfl
  | 1, _, 0, _ => rfl | 1, _, 1, _ => rfl | 1, _, 2, _ => rfl | 1, _, 3, _ => rfl | 1, _, 4, _ => rfl
  | 2, _, 0, _ => rfl | 2, _, 1, _ => rfl | 2, _, 2, _ => rfl | 2, _, 3, _ => rfl | 2, _, 4, _ => rfl
  | 3, _, 0, _ => rfl | 3, _, 1, _ => rfl | 3, _, 2, _ => rfl | 3, _, 3, _ => rfl | 3, _, 4, _ => rfl
  | 4, _, 0, _ => rfl | 4, _, 1, _ => rfl | 4, _, 2, _ => rfl | 4, _, 3, _ => rfl | 4, _, 4, _ => rfl
theorem Clk.ext' {a b : Clk} (h : ∀ i, i < 5 → a.get i = b.get i) : a = b := by
  cases a; cases b
  have h0 := h 0 (by decide); have h1 := h 1 (by decide); have h2 := h 2 (by decide); have h3 := h 3 (by decide); have h4 := h 4 (by decide)
  simp only [Clk.get] at h0 h1 h2 h3 h4
  simp [h0, h1, h2, h3, h4]
def clk0 : Clk := ⟨0, 0, 0, 0, 0⟩
def cHas (c : Clk) (r n : Int) : Bool := decide (0 ≤ r) && decide (r < 5) && decide (0 < n) && decide (n ≤ c.get r.toNat)

/-! ### edits and events -/
structure Ed where
  kind : Int
  key : List UInt8
  label : Int
  val : List UInt8
deriving DecidableEq
def edC (x : Ed) : List Value := [.int .i64 x.kind, str x.key, .int .i64 x.label, str x.val]
structure Ev where
  r : Int
  n : Int
  c : Clk
  h : Int
  kind : Int
  key : List UInt8
  label : Int
  val : List UInt8
deriving DecidableEq
def Ev.ed (x : Ev) : Ed := ⟨x.kind, x.key, x.label, x.val⟩
def evC (x : Ev) : List Value := [.int .i64 x.r, .int .i64 x.n, .int .i64 x.c.c0, .int .i64 x.c.c1, .int .i64 x.c.c2, .int .i64 x.c.c3, .int .i64 x.c.c4, .int .i64 x.h, .int .i64 x.kind, str x.key, .int .i64 x.label, str x.val]
theorem nth_evc (x : Ev) (i : Nat) (h : i < 5) : nth (evC x) (2 + i) = some (.int .i64 (x.c.get i)) := by
  match i, h with
  | 0, _ => rfl | 1, _ => rfl | 2, _ => rfl | 3, _ => rfl | 4, _ => rfl

def okByte (b : UInt8) : Bool := decide (97 ≤ b.toNat) && decide (b.toNat ≤ 122)
def keyOk (s : List UInt8) : Bool := decide (1 ≤ s.length) && decide (s.length ≤ 8) && s.all okByte
def tKey (s : List UInt8) : Int := if keyOk s then 0 else 10
def tLabel (n : Int) : Int := if 0 ≤ n ∧ n < 2 then 0 else 11
def tValue (s : List UInt8) : Int := if 1 ≤ s.length ∧ s.length ≤ 12 then 0 else 12
def tBare (x : Ed) : Int := if x.label ≠ 0 then 11 else if x.val ≠ [] then 12 else 0
def tEdit (x : Ed) : Int := if x.kind < 1 ∨ 5 < x.kind then 1 else if tKey x.key ≠ 0 then tKey x.key else if x.kind ≤ 2 then tBare x else if tLabel x.label ≠ 0 then tLabel x.label else tValue x.val
def Clk.all (c : Clk) (p : Int → Bool) : Bool := p c.c0 && p c.c1 && p c.c2 && p c.c3 && p c.c4
theorem Clk.all_iff (c : Clk) (p : Int → Bool) : c.all p = true ↔ ∀ i, i < 5 → p (c.get i) = true := by
  simp only [Clk.all, Bool.and_eq_true]
  constructor
  · rintro ⟨⟨⟨⟨h0, h1⟩, h2⟩, h3⟩, h4⟩ i hi
    match i, hi with
    | 0, _ => exact h0 | 1, _ => exact h1 | 2, _ => exact h2 | 3, _ => exact h3 | 4, _ => exact h4
  · intro h
    exact ⟨⟨⟨⟨h 0 (by decide), h 1 (by decide)⟩, h 2 (by decide)⟩, h 3 (by decide)⟩, h 4 (by decide)⟩
def inEv (n : Int) : Bool := decide (0 ≤ n) && decide (n ≤ 1048576)
/-- What may be of an event but its edit. -/
def evHead (x : Ev) : Bool := decide (0 ≤ x.r) && decide (x.r < 5) && decide (1 ≤ x.n) && decide (x.n ≤ 1048576) && decide (x.c.get x.r.toNat = x.n - 1) && decide (1 ≤ x.h) && decide (x.h ≤ 16777216) && x.c.all inEv
def evMay (x : Ev) : Int := if evHead x then tEdit x.ed else 1

def putE (x : Ev) : List UInt8 :=
  [UInt8.ofNat x.kind.toNat, UInt8.ofNat x.r.toNat] ++ vput x.n.toNat ++ ((List.range 5).filter (fun i : Nat => decide ((i : Int) ≠ x.r))).flatMap (fun i : Nat => vput (x.c.get i).toNat) ++ vput x.h.toNat ++ UInt8.ofNat x.key.length :: x.key ++
    (if 2 < x.kind then UInt8.ofNat x.label.toNat :: UInt8.ofNat x.val.length :: x.val else [])
end Go.Proofs.Ytbcpabfemejlgaa
/- Events and edits that may be, made of any: plain. -/
namespace Go.Proofs.Ytbcpabfemejlgaa
open K
theorem wu8i (b : UInt8) : IntKind.i64.wrap (b.toNat : Int) = b.toNat := wi (by omega) (by have := b.toNat_lt; omega)
def bsum (l : List UInt8) : Nat := (l.map (·.toNat)).sum
theorem bsum_le : ∀ l : List UInt8, bsum l ≤ 255 * l.length
  | [] => Nat.le_refl _
  | b :: l => by
    have := bsum_le l
    have := b.toNat_lt
    simp only [bsum, List.map_cons, List.sum_cons, List.length_cons] at *
    omega
theorem bsum_take (l : List UInt8) (i : Nat) (h : i < l.length) : bsum (l.take (i + 1)) = bsum (l.take i) + (l.getD i 0).toNat := by
  unfold bsum
  rw [List.take_add_one, List.map_append, List.sum_append]
  simp [h]
theorem bsum_take_le (l : List UInt8) (i : Nat) : bsum (l.take i) ≤ 255 * i := by
  have := bsum_le (l.take i)
  have : (l.take i).length ≤ i := by simp; omega
  omega
def keys3 : List (List UInt8) := [[97, 110, 110], [98, 111, 98], [99, 121]]
def vals4 : List (List UInt8) := [[49], [116, 119, 111], [0, 255], [116, 119, 101, 108, 118, 101, 32, 98, 121, 116, 101, 115]]
def fitK (n : Int) : Int := 1 + ((n.tmod 5) + 5).tmod 5
def fitR (n : Int) : Int := ((n.tmod 5) + 5).tmod 5
theorem tmod_in (n : Int) (k : Int) (h : 0 < k) : -k < n.tmod k ∧ n.tmod k < k := by
  have h1 := Int.tmod_lt_of_pos n h
  have h2 := Int.tmod_lt_of_pos (-n) h
  rw [Int.neg_tmod] at h2
  have h2 : -k < n.tmod k := by omega
  exact ⟨h2, h1⟩
theorem fitR_in (n : Int) : 0 ≤ fitR n ∧ fitR n < 5 := by
  unfold fitR
  have h := tmod_in n 5 (by decide)
  exact ⟨Int.tmod_nonneg _ (by omega), Int.tmod_lt_of_pos _ (by decide)⟩
theorem mask_in (n : Int) (k : Nat) (hk : k < 62) : 0 ≤ bitv .and .i64 n (2 ^ k - 1) ∧ bitv .and .i64 n (2 ^ k - 1) ≤ 2 ^ k - 1 := by
  have hb : (BitVec.ofInt 64 ((2 : Int) ^ k - 1)).toNat = 2 ^ k - 1 := by
    rw [BitVec.toNat_ofInt]
    have h1 : (2 : Int) ^ k - 1 = ((2 ^ k - 1 : Nat) : Int) := by
      have : 1 ≤ 2 ^ k := Nat.one_le_two_pow
      push_cast [this]; rfl
    rw [h1]
    have h2 : 2 ^ k < 2 ^ 62 := Nat.pow_lt_pow_right (by decide) hk
    omega
  have h3 : (BitVec.ofInt 64 n &&& BitVec.ofInt 64 ((2 : Int) ^ k - 1)).toNat ≤ 2 ^ k - 1 := by
    rw [BitVec.toNat_and, hb]
    exact Nat.and_le_right
  have h2 : 2 ^ k < 2 ^ 62 := Nat.pow_lt_pow_right (by decide) hk
  generalize hq : (BitVec.ofInt 64 n &&& BitVec.ofInt 64 ((2 : Int) ^ k - 1)).toNat = q at h3
  have h4 : bitv .and .i64 n (2 ^ k - 1) = IntKind.i64.wrap (q : Int) := by rw [← hq]; rfl
  rw [h4, wi (by omega) (by omega)]
  have h5 : 1 ≤ 2 ^ k := Nat.one_le_two_pow
  have h6 : ((2 ^ k : Nat) : Int) = (2 : Int) ^ k := by norm_cast
  omega
def m20 (n : Int) : Int := bitv .and .i64 n 1048575
def m24 (n : Int) : Int := bitv .and .i64 n 16777215
def m1 (n : Int) : Int := bitv .and .i64 n 1
theorem m20_in (n : Int) : 0 ≤ m20 n ∧ m20 n ≤ 1048575 := mask_in n 20 (by decide)
theorem m24_in (n : Int) : 0 ≤ m24 n ∧ m24 n ≤ 16777215 := mask_in n 24 (by decide)
theorem m1_in (n : Int) : 0 ≤ m1 n ∧ m1 n ≤ 1 := mask_in n 1 (by decide)
def fitEd (x : Ed) : Ed := ⟨fitK x.kind, keys3.getD (bsum x.key % 3) [], if 2 < fitK x.kind then m1 x.label else 0, if 2 < fitK x.kind then vals4.getD (bsum x.val % 4) [] else []⟩
def fitC (c : Clk) : Clk := ⟨m20 c.c0, m20 c.c1, m20 c.c2, m20 c.c3, m20 c.c4⟩
def fitEv (x : Ev) : Ev := ⟨fitR x.r, 1 + m20 x.n, (fitC x.c).set (fitR x.r).toNat (m20 x.n), 1 + m24 x.h, (fitEd x.ed).kind, (fitEd x.ed).key, (fitEd x.ed).label, (fitEd x.ed).val⟩
theorem keys3_ok : ∀ i, i < 3 → keyOk (keys3.getD i []) = true := by
  intro i hi
  match i, hi with
  | 0, _ => decide | 1, _ => decide | 2, _ => decide
theorem vals4_ok : ∀ i, i < 4 → 1 ≤ (vals4.getD i []).length ∧ (vals4.getD i []).length ≤ 12 := by
  intro i hi
  match i, hi with
  | 0, _ => decide | 1, _ => decide | 2, _ => decide | 3, _ => decide
theorem fitEd_ok (x : Ed) : tEdit (fitEd x) = 0 := by
  have hk : 1 ≤ fitK x.kind ∧ fitK x.kind ≤ 5 := by have := fitR_in x.kind; unfold fitR at this; unfold fitK; omega
  unfold tEdit
  rw [if_neg (show ¬ ((fitEd x).kind < 1 ∨ 5 < (fitEd x).kind) from by show ¬ (fitK x.kind < 1 ∨ 5 < fitK x.kind); omega)]
  have h1 : tKey (fitEd x).key = 0 := if_pos (keys3_ok _ (Nat.mod_lt _ (by decide)))
  rw [if_neg (by rw [h1]; decide)]
  by_cases h : 2 < fitK x.kind
  · rw [if_neg (show ¬ (fitEd x).kind ≤ 2 from by show ¬ fitK x.kind ≤ 2; omega)]
    have h2 : (fitEd x).label = m1 x.label := if_pos h
    have h3 : (fitEd x).val = vals4.getD (bsum x.val % 4) [] := if_pos h
    have h4 := m1_in x.label
    have h5 := vals4_ok (bsum x.val % 4) (Nat.mod_lt _ (by decide))
    have h6 : tLabel (fitEd x).label = 0 := if_pos (by rw [h2]; omega)
    rw [if_neg (by rw [h6]; decide)]
    exact if_pos (by rw [h3]; exact h5)
  · rw [if_pos (show (fitEd x).kind ≤ 2 from by show fitK x.kind ≤ 2; omega)]
    have h2 : (fitEd x).label = 0 := if_neg h
    have h3 : (fitEd x).val = [] := if_neg h
    unfold tBare
    rw [if_neg (by rw [h2]; decide), if_neg (by rw [h3]; decide)]
theorem fitC_get (c : Clk) (i : Nat) : (fitC c).get i = m20 (c.get i) := by
  unfold Clk.get fitC
  split <;> rfl
theorem fitEv_ok (x : Ev) : evMay (fitEv x) = 0 := by
  have hr := fitR_in x.r
  have hn := m20_in x.n
  have hh := m24_in x.h
  have h1 : evHead (fitEv x) = true := by
    simp only [evHead, Bool.and_eq_true, decide_eq_true_eq]
    refine ⟨⟨⟨⟨⟨⟨⟨show 0 ≤ fitR x.r by omega, show fitR x.r < 5 by omega⟩, show 1 ≤ 1 + m20 x.n by omega⟩, show 1 + m20 x.n ≤ 1048576 by omega⟩, ?_⟩, show 1 ≤ 1 + m24 x.h by omega⟩, show 1 + m24 x.h ≤ 16777216 by omega⟩, ?_⟩
    · show ((fitC x.c).set (fitR x.r).toNat (m20 x.n)).get (fitR x.r).toNat = 1 + m20 x.n - 1
      rw [Clk.get_set _ _ _ (by omega) (by omega), if_pos rfl]; omega
    · rw [Clk.all_iff]
      intro i hi
      show inEv (((fitC x.c).set (fitR x.r).toNat (m20 x.n)).get i) = true
      rw [Clk.get_set _ _ _ (by omega) hi]
      simp only [inEv, Bool.and_eq_true, decide_eq_true_eq]
      split
      · omega
      · rw [fitC_get]
        have := m20_in (x.c.get i)
        omega
  unfold evMay
  rw [if_pos h1]
  exact fitEd_ok x.ed
end Go.Proofs.Ytbcpabfemejlgaa
/- What is taken from bytes: numbers; plain. -/
namespace Go.Proofs.Ytbcpabfemejlgaa
open K
def vgo : List UInt8 → Nat → Nat → Nat × Nat × Int
  | [], i, _ => if 10 ≤ i then (0, 0, 3) else (0, 0, 2)
  | c :: l, i, m =>
    if 10 ≤ i then (0, 0, 3)
    else if 128 ≤ c.toNat then vgo l (i + 1) (m + c.toNat % 128 * 128 ^ i)
    else if (c.toNat = 0 ∧ 0 < i) ∨ (i = 9 ∧ 1 < c.toNat) then (0, 0, 3)
    else (m + c.toNat * 128 ^ i, i + 1, 0)
def vtake (b : List UInt8) : Nat × Nat × Int := vgo b 0 0

theorem vgo10 (l : List UInt8) (m : Nat) : vgo l 10 m = (0, 0, 3) := by cases l <;> rfl
theorem vput_low (n : Nat) (h : n < 128) : vput n = [UInt8.ofNat n] := by rw [vput, if_pos h]
theorem vput_more (n : Nat) (h : 128 ≤ n) : vput n = UInt8.ofNat (n % 128 + 128) :: vput (n / 128) := by rw [vput, if_neg (by omega)]
theorem toNat_low (n : Nat) (h : n < 128) : (UInt8.ofNat n).toNat = n := by simp; omega
theorem toNat_more (n : Nat) : (UInt8.ofNat (n % 128 + 128)).toNat = n % 128 + 128 := by simp; omega
theorem toNat_more_of (c : UInt8) (h : 128 ≤ c.toNat) : c.toNat = (UInt8.ofNat (c.toNat % 128 + 128)).toNat := by
  have := c.toNat_lt
  rw [toNat_more]; omega
theorem pow_step (q i : Nat) : q % 128 * 128 ^ i + q / 128 * 128 ^ (i + 1) = q * 128 ^ i := by
  rw [Nat.pow_succ, Nat.mul_comm (128 ^ i) 128, ← Nat.mul_assoc, ← Nat.add_mul]
  congr 1
  omega

theorem vgo_put (rest : List UInt8) : ∀ (n i m : Nat), i + (vput n).length ≤ 9 → (i = 0 ∨ n ≠ 0) → vgo (vput n ++ rest) i m = (m + n * 128 ^ i, i + (vput n).length, 0) := by
  intro n
  induction n using Nat.strongRecOn with
  | _ n ih =>
    intro i m hl h0
    by_cases hn : n < 128
    · rw [vput_low n hn] at hl ⊢
      simp only [List.length_singleton] at hl
      simp only [List.cons_append, List.nil_append, vgo, toNat_low n hn, List.length_singleton]
      rw [if_neg (by omega), if_neg (by omega), if_neg (by omega)]
    · rw [vput_more n (by omega)] at hl ⊢
      simp only [List.length_cons] at hl
      simp only [List.cons_append, vgo, toNat_more, List.length_cons]
      rw [if_neg (by omega), if_pos (by omega), ih (n / 128) (by omega) (i + 1) _ (by omega) (.inr (by omega))]
      have := pow_step n i
      rw [show (n % 128 + 128) % 128 = n % 128 from by omega]
      refine Prod.ext ?_ (Prod.ext ?_ rfl)
      · show m + n % 128 * 128 ^ i + n / 128 * 128 ^ (i + 1) = m + n * 128 ^ i
        omega
      · show i + 1 + (vput (n / 128)).length = i + ((vput (n / 128)).length + 1)
        omega
theorem vtake_put (n : Nat) (h : (vput n).length ≤ 9) (rest : List UInt8) : vtake (vput n ++ rest) = (n, (vput n).length, 0) := by
  have := vgo_put rest n 0 0 (by omega) (.inl rfl)
  simpa [vtake] using this
theorem vgo_short : ∀ (n i m j : Nat), j < (vput n).length → i + (vput n).length ≤ 10 → vgo ((vput n).take j) i m = (0, 0, 2) := by
  intro n
  induction n using Nat.strongRecOn with
  | _ n ih =>
    intro i m j hj hl
    cases j with
    | zero =>
      rw [List.take_zero]
      show (if 10 ≤ i then _ else _) = _
      rw [if_neg (by omega)]
    | succ j =>
      by_cases hn : n < 128
      · rw [vput_low n hn] at hj; simp at hj
      · rw [vput_more n (by omega)] at hj hl ⊢
        simp only [List.length_cons] at hj hl
        simp only [List.take_succ_cons, vgo, toNat_more]
        rw [if_neg (by omega), if_pos (by omega)]
        exact ih (n / 128) (by omega) (i + 1) _ j (by omega) (by omega)
theorem vtake_short (n j : Nat) (hj : j < (vput n).length) (hl : (vput n).length ≤ 10) : vtake ((vput n).take j) = (0, 0, 2) := vgo_short n 0 0 j hj (by omega)
theorem vgo_ok : ∀ (l : List UInt8) (i m n k : Nat), vgo l i m = (n, k, 0) → ∃ q, n = m + q * 128 ^ i ∧ k = i + (vput q).length ∧ l.take (vput q).length = vput q ∧ (vput q).length ≤ l.length ∧ (i = 0 ∨ q ≠ 0) ∧ k ≤ 10
  | [], i, m, n, k, h => by
    simp only [vgo] at h
    split at h <;> (simp at h)
  | c :: l, i, m, n, k, h => by
    simp only [vgo] at h
    have hc := c.toNat_lt
    by_cases h1 : 10 ≤ i
    · rw [if_pos h1] at h; simp at h
    rw [if_neg h1] at h
    by_cases h2 : 128 ≤ c.toNat
    · rw [if_pos h2] at h
      obtain ⟨q, e1, e2, e3, e4, e5, e6⟩ := vgo_ok l (i + 1) _ n k h
      have hq : q ≠ 0 := e5.resolve_left (by omega)
      have hm : 128 ≤ c.toNat % 128 + 128 * q := by omega
      have hd : (c.toNat % 128 + 128 * q) / 128 = q := by omega
      have hr : (c.toNat % 128 + 128 * q) % 128 = c.toNat % 128 := by omega
      have hv : vput (c.toNat % 128 + 128 * q) = c :: vput q := by
        rw [vput_more _ hm, hd, hr]
        congr 1
        apply UInt8.toNat_inj.1
        exact (toNat_more_of c h2).symm
      refine ⟨c.toNat % 128 + 128 * q, ?_, ?_, ?_, ?_, .inr (by omega), e6⟩
      · have := pow_step (c.toNat % 128 + 128 * q) i
        rw [hd, hr] at this
        rw [← this]; omega
      · rw [hv, List.length_cons]; omega
      · rw [hv, List.length_cons, List.take_succ_cons, e3]
      · rw [hv, List.length_cons, List.length_cons]; omega
    · rw [if_neg h2] at h
      split at h
      · simp at h
      · rename_i h3
        simp only [Prod.mk.injEq, and_true] at h
        have hv : vput c.toNat = [c] := by
          rw [vput_low _ (by omega)]
          congr 1
          apply UInt8.toNat_inj.1
          simp
        refine ⟨c.toNat, h.1.symm, ?_, ?_, ?_, by omega, by omega⟩
        · rw [hv]; exact h.2.symm
        · rw [hv]; rfl
        · rw [hv]; simp
theorem vtake_ok {b : List UInt8} {n k : Nat} (h : vtake b = (n, k, 0)) : b.take k = vput n ∧ k = (vput n).length ∧ k ≤ b.length ∧ k ≤ 10 := by
  obtain ⟨q, e1, e2, e3, e4, _, e6⟩ := vgo_ok b 0 0 n k h
  have hq : n = q := by simpa using e1
  subst hq
  have hk : k = (vput n).length := by omega
  exact ⟨by rw [hk]; exact e3, hk, by omega, e6⟩
theorem vtake_err {b : List UInt8} : ((vtake b).2.2 = 0 ∧ 1 ≤ (vtake b).2.1 ∧ (vtake b).2.1 ≤ b.length) ∨ (vtake b).2.2 = 2 ∨ (vtake b).2.2 = 3 := by
  generalize h : vtake b = t
  obtain ⟨n, k, x⟩ := t
  have key : ∀ (l : List UInt8) (i m : Nat), (vgo l i m).2.2 = 0 ∨ (vgo l i m).2.2 = 2 ∨ (vgo l i m).2.2 = 3 := by
    intro l
    induction l with
    | nil => intro i m; simp only [vgo]; split <;> simp
    | cons c l ih =>
      intro i m
      simp only [vgo]
      split
      · simp
      · split
        · exact ih _ _
        · split <;> simp
  rcases key b 0 0 with hk | hk
  · left
    have h2 : x = 0 := by have := hk; rw [show vgo b 0 0 = (n, k, x) from h] at this; exact this
    subst h2
    obtain ⟨_, e2, e3, _⟩ := vtake_ok h
    have := vput_pos n
    exact ⟨rfl, by show 1 ≤ k; omega, e3⟩
  · right
    rw [show vgo b 0 0 = (n, k, x) from h] at hk
    exact hk

/-! ### the walk's bits -/
theorem u8_clear (c : UInt8) : bitv .andNot .u8 c.toNat 128 = ((c.toNat % 128 : Nat) : Int) := by
  have key : ∀ y : Fin 256, bitv .andNot .u8 ((y.val : Nat) : Int) 128 = ((y.val % 128 : Nat) : Int) := by decide +kernel
  exact key ⟨c.toNat, c.toNat_lt⟩
theorem u8_top (c : UInt8) : (bitv .and .u8 c.toNat 128 ≠ 0) ↔ 128 ≤ c.toNat := by
  have key : ∀ y : Fin 256, (bitv .and .u8 ((y.val : Nat) : Int) 128 ≠ 0) ↔ 128 ≤ y.val := by decide +kernel
  exact key ⟨c.toNat, c.toNat_lt⟩
theorem or_shift (m x i : Nat) (hm : m < 128 ^ i) (hi : i ≤ 9) : bitv .or .u64 (m : Int) (IntKind.u64.wrap ((x : Int) * 2 ^ (7 * i))) = ((m + x * 128 ^ i % 2 ^ 64 : Nat) : Int) := by
  have e1 : (128 : Nat) ^ i = 2 ^ (7 * i) := by rw [Nat.pow_mul]
  rw [e1] at hm ⊢
  have e2 : IntKind.u64.wrap ((x : Int) * 2 ^ (7 * i)) = ((x * 2 ^ (7 * i) % 2 ^ 64 : Nat) : Int) := by
    simp only [IntKind.wrap, IntKind.bits, IntKind.signed]
    simp
  rw [e2]
  have e3 : x * 2 ^ (7 * i) % 2 ^ 64 = 2 ^ (7 * i) * (x % 2 ^ (64 - 7 * i)) := by
    rw [Nat.mul_comm x, show (2 : Nat) ^ 64 = 2 ^ (7 * i) * 2 ^ (64 - 7 * i) from by rw [← Nat.pow_add]; congr 1; omega, Nat.mul_mod_mul_left]
  rw [e3]
  have hp : 2 ^ (7 * i) ≤ 2 ^ 63 := Nat.pow_le_pow_right (by decide) (by omega)
  have hlt : 2 ^ (7 * i) * (x % 2 ^ (64 - 7 * i)) + m < 2 ^ 64 := by
    have h1 : x % 2 ^ (64 - 7 * i) + 1 ≤ 2 ^ (64 - 7 * i) := Nat.mod_lt _ (Nat.two_pow_pos _)
    have h2 : 2 ^ (7 * i) * (x % 2 ^ (64 - 7 * i) + 1) ≤ 2 ^ (7 * i) * 2 ^ (64 - 7 * i) := Nat.mul_le_mul_left _ h1
    rw [← Nat.pow_add, show 7 * i + (64 - 7 * i) = 64 from by omega, Nat.mul_add] at h2
    omega
  have h4 : (BitVec.ofInt 64 (m : Int) ||| BitVec.ofInt 64 ((2 ^ (7 * i) * (x % 2 ^ (64 - 7 * i)) : Nat) : Int)).toNat = 2 ^ (7 * i) * (x % 2 ^ (64 - 7 * i)) + m := by
    rw [BitVec.toNat_or, BitVec.toNat_ofInt, BitVec.toNat_ofInt]
    have g1 : ((m : Int) % (2 ^ 64 : Nat)).toNat = m := by omega
    have g2 : (((2 ^ (7 * i) * (x % 2 ^ (64 - 7 * i)) : Nat) : Int) % (2 ^ 64 : Nat)).toNat = 2 ^ (7 * i) * (x % 2 ^ (64 - 7 * i)) := by omega
    rw [g1, g2, Nat.or_comm, Nat.two_pow_add_eq_or_of_lt hm]
  unfold bitv
  show IntKind.u64.wrap ((BitVec.ofInt 64 (m : Int) ||| BitVec.ofInt 64 ((2 ^ (7 * i) * (x % 2 ^ (64 - 7 * i)) : Nat) : Int)).toNat : Int) = _
  rw [h4]
  generalize 2 ^ (7 * i) * (x % 2 ^ (64 - 7 * i)) = A at *
  rw [wu64 (by omega) (by omega)]
  congr 1
  omega
end Go.Proofs.Ytbcpabfemejlgaa
/- What event.Take takes: plain. -/
namespace Go.Proofs.Ytbcpabfemejlgaa
open K
def tOne (low high : Int) (s : List UInt8) (e : Int) : Int × List UInt8 × Int :=
  if e ≠ 0 then (low, s, e) else match s with
  | [] => (low, [], 2)
  | c :: s' => (c.toNat, s', if (c.toNat : Int) < low ∨ high < (c.toNat : Int) then 3 else 0)
def tNum (low high : Int) (s : List UInt8) (e : Int) : Int × List UInt8 × Int :=
  if e ≠ 0 ∨ (vtake s).2.2 ≠ 0 then (low, s, if e = 0 then (vtake s).2.2 else e)
  else (IntKind.i64.wrap (vtake s).1, s.drop (vtake s).2.1, if ((vtake s).1 : Int) < low ∨ high < ((vtake s).1 : Int) then 3 else 0)
def tWords (most : Int) (s : List UInt8) (e : Int) : List UInt8 × List UInt8 × Int :=
  if (tOne 1 most s e).2.2 ≠ 0 ∨ ((tOne 1 most s e).2.1.length : Int) < (tOne 1 most s e).1 then ([], (tOne 1 most s e).2.1, if (tOne 1 most s e).2.2 = 0 then 2 else (tOne 1 most s e).2.2)
  else ((tOne 1 most s e).2.1.take (tOne 1 most s e).1.toNat, (tOne 1 most s e).2.1.drop (tOne 1 most s e).1.toNat, (tOne 1 most s e).2.2)

theorem tOne_ok {low high : Int} {s : List UInt8} {e : Int} (h : (tOne low high s e).2.2 = 0) : e = 0 ∧ low ≤ (tOne low high s e).1 ∧ (tOne low high s e).1 ≤ high ∧ ∃ c, s = c :: (tOne low high s e).2.1 ∧ (tOne low high s e).1 = c.toNat := by
  unfold tOne at h ⊢
  by_cases he : e ≠ 0
  · rw [if_pos he] at h; exact absurd h he
  rw [if_neg he] at h ⊢
  cases s with
  | nil => cases h
  | cons c s =>
    simp only at h ⊢
    by_cases hq : (c.toNat : Int) < low ∨ high < (c.toNat : Int)
    · rw [if_pos hq] at h; cases h
    · exact ⟨by omega, by omega, by omega, c, rfl, rfl⟩
theorem tOne_le {low high : Int} {s : List UInt8} {e : Int} : (tOne low high s e).2.1.length ≤ s.length := by
  unfold tOne
  split
  · exact Nat.le_refl _
  · cases s with
    | nil => exact Nat.le_refl _
    | cons c s => simp
/-! ### what is taken -/
def tStep (r : Int) (i : Nat) (q : Clk × List UInt8 × Int) : Clk × List UInt8 × Int :=
  if (i : Int) ≠ r then (q.1.set i (tNum 0 1048576 q.2.1 q.2.2).1, (tNum 0 1048576 q.2.1 q.2.2).2.1, (tNum 0 1048576 q.2.1 q.2.2).2.2) else q
def tCtx (r : Int) (s : List UInt8) (e : Int) : Nat → Clk × List UInt8 × Int
  | 0 => (clk0, s, e)
  | i + 1 => tStep r i (tCtx r s e i)
def tKeyE (key : List UInt8) (e : Int) : Int := if keyOk key then e else if e = 0 then 3 else e
/-- The fields, what is left, and what is wrong. -/
def takeS (b : List UInt8) : Ev × List UInt8 × Int :=
  let k := tOne 1 5 b 0
  let r := tOne 0 4 k.2.1 k.2.2
  let n := tNum 1 1048576 r.2.1 r.2.2
  let c := tCtx r.1 n.2.1 n.2.2 5
  let h := tNum 1 16777216 c.2.1 c.2.2
  let y := tWords 8 h.2.1 h.2.2
  let e := tKeyE y.1 y.2.2
  if 2 < k.1 then
    let l := tOne 0 1 y.2.1 e
    let v := tWords 12 l.2.1 l.2.2
    (⟨r.1, n.1, c.1, h.1, k.1, y.1, l.1, v.1⟩, v.2.1, v.2.2)
  else (⟨r.1, n.1, c.1, h.1, k.1, y.1, 0, []⟩, y.2.1, e)
def evZ : Ev := ⟨0, 0, clk0, 0, 0, [], 0, []⟩
def takeFin (len : Nat) (t : Ev × List UInt8 × Int) : Ev × Int × Int :=
  if t.2.2 ≠ 0 then (evZ, 0, t.2.2)
  else ({ t.1 with c := t.1.c.set t.1.r.toNat (t.1.n - 1) }, ((len - t.2.1.length : Nat) : Int), 0)
def takeE (b : List UInt8) : Ev × Int × Int := takeFin b.length (takeS b)
theorem tNum_le {low high : Int} {s : List UInt8} {e : Int} : (tNum low high s e).2.1.length ≤ s.length := by
  unfold tNum
  split
  · exact Nat.le_refl _
  · simp
theorem tWords_le {most : Int} {s : List UInt8} {e : Int} : (tWords most s e).2.1.length ≤ s.length := by
  have := @tOne_le 1 most s e
  unfold tWords
  split
  · exact this
  · simp; omega
theorem tCtx_le {r : Int} {s : List UInt8} {e : Int} : ∀ i, (tCtx r s e i).2.1.length ≤ s.length
  | 0 => Nat.le_refl _
  | i + 1 => by
    have h1 := @tCtx_le r s e i
    show (tStep r i (tCtx r s e i)).2.1.length ≤ s.length
    unfold tStep
    split
    · exact Nat.le_trans tNum_le h1
    · exact h1


theorem tNum_ok {low high : Int} (hh : high ≤ 4611686018427387904) {s : List UInt8} {e : Int} (h : (tNum low high s e).2.2 = 0) : e = 0 ∧ ∃ n : Nat, (tNum low high s e).1 = n ∧ low ≤ n ∧ (n : Int) ≤ high ∧ s = vput n ++ (tNum low high s e).2.1 := by
  unfold tNum at h ⊢
  by_cases hc : e ≠ 0 ∨ (vtake s).2.2 ≠ 0
  · rw [if_pos hc] at h
    simp only at h
    split at h
    · rename_i he
      rcases hc with hc | hc
      · exact absurd he hc
      · exact absurd h hc
    · rename_i he; exact absurd h he
  rw [if_neg hc] at h ⊢
  simp only at h ⊢
  have hr : ¬ (((vtake s).1 : Int) < low ∨ high < ((vtake s).1 : Int)) := fun hr => by rw [if_pos hr] at h; cases h
  have he : e = 0 ∧ (vtake s).2.2 = 0 := by omega
  generalize hv : vtake s = t at *
  obtain ⟨n, k, x⟩ := t
  obtain ⟨rfl, rfl⟩ := he
  obtain ⟨h1, h2, h3, _⟩ := vtake_ok hv
  refine ⟨rfl, n, wi (by omega) (by omega), by omega, by omega, ?_⟩
  show s = vput n ++ s.drop k
  rw [← h1, List.take_append_drop]
theorem tCtx_e {r : Int} {s : List UInt8} {e : Int} : ∀ i, (tCtx r s e i).2.2 = 0 → e = 0
  | 0, h => h
  | i + 1, h => by
    have h1 : (tStep r i (tCtx r s e i)).2.2 = 0 := h
    unfold tStep at h1
    split at h1
    · exact tCtx_e i (tNum_ok (by decide) h1).1
    · exact tCtx_e i h1
theorem tWords_ok {most : Int} {s : List UInt8} {e : Int} (h : (tWords most s e).2.2 = 0) : e = 0 ∧ 1 ≤ (tWords most s e).1.length ∧ ((tWords most s e).1.length : Int) ≤ most ∧ s = UInt8.ofNat (tWords most s e).1.length :: (tWords most s e).1 ++ (tWords most s e).2.1 := by
  unfold tWords at h ⊢
  by_cases hc : (tOne 1 most s e).2.2 ≠ 0 ∨ ((tOne 1 most s e).2.1.length : Int) < (tOne 1 most s e).1
  · rw [if_pos hc] at h
    simp only at h
    split at h
    · cases h
    · rename_i he; exact absurd h he
  rw [if_neg hc] at h ⊢
  simp only at h ⊢
  obtain ⟨he, h1, h2, ch, h3, h4⟩ := tOne_ok h
  generalize tOne 1 most s e = t at *
  obtain ⟨n, s', e'⟩ := t
  simp only at *
  have hl : (s'.take n.toNat).length = n.toNat := by rw [List.length_take]; omega
  refine ⟨he, by omega, by omega, ?_⟩
  rw [hl, h3, h4]
  have : UInt8.ofNat ((ch.toNat : Int)).toNat = ch := by simp
  rw [this]
  simp
theorem tKeyE_ok {key : List UInt8} {e : Int} (h : tKeyE key e = 0) : e = 0 ∧ keyOk key = true := by
  unfold tKeyE at h
  split at h
  · exact ⟨h, by assumption⟩
  · split at h
    · cases h
    · rename_i he; exact absurd h he
structure TakeIn (x : Ev) : Prop where
  r0 : 0 ≤ x.r
  r5 : x.r < 5
  n1 : 1 ≤ x.n
  n2 : x.n ≤ 1048576
theorem takeS_in (b : List UInt8) (h : (takeS b).2.2 = 0) : TakeIn (takeS b).1 := by
  unfold takeS at h ⊢
  dsimp only at h ⊢
  generalize hq1 : tOne 1 5 b 0 = q1 at *
  obtain ⟨kd, s1, e1⟩ := q1
  dsimp only at h ⊢
  generalize hq2 : tOne 0 4 s1 e1 = q2 at *
  obtain ⟨r, s2, e2⟩ := q2
  dsimp only at h ⊢
  generalize hq3 : tNum 1 1048576 s2 e2 = q3 at *
  obtain ⟨n, s3, e3⟩ := q3
  dsimp only at h ⊢
  have e5 : ∀ {c : Clk × List UInt8 × Int}, c = tCtx r s3 e3 5 → ∀ {y : List UInt8 × List UInt8 × Int}, y = tWords 8 (tNum 1 16777216 c.2.1 c.2.2).2.1 (tNum 1 16777216 c.2.1 c.2.2).2.2 → tKeyE y.1 y.2.2 = 0 → e3 = 0 := by
    intro c hc y hy h
    have h1 := (tKeyE_ok h).1
    rw [hy] at h1
    have h2 := (tNum_ok (by decide) (tWords_ok h1).1).1
    rw [hc] at h2
    exact tCtx_e 5 h2
  have key : e3 = 0 → TakeIn ⟨r, n, (tCtx r s3 e3 5).1, (tNum 1 16777216 (tCtx r s3 e3 5).2.1 (tCtx r s3 e3 5).2.2).1, kd, [], 0, []⟩ := by
    intro he
    subst he
    have h3 := tNum_ok (low := 1) (high := 1048576) (by decide) (s := s2) (e := e2) (by rw [hq3])
    rw [hq3] at h3
    obtain ⟨he2, m, hm, h4, h5, _⟩ := h3
    subst he2
    have h6 := tOne_ok (low := 0) (high := 4) (s := s1) (e := e1) (by rw [hq2])
    rw [hq2] at h6
    dsimp only at hm h6
    exact ⟨h6.2.1, by have := h6.2.2.1; show r < 5; omega, by show 1 ≤ n; omega, by show n ≤ 1048576; omega⟩
  by_cases hk : 2 < kd
  · rw [if_pos hk] at h ⊢
    have h1 := (tOne_ok (tWords_ok h).1).1
    have := key (e5 rfl rfl h1)
    exact ⟨this.r0, this.r5, this.n1, this.n2⟩
  · rw [if_neg hk] at h ⊢
    have := key (e5 rfl rfl h)
    exact ⟨this.r0, this.r5, this.n1, this.n2⟩
end Go.Proofs.Ytbcpabfemejlgaa
