/- The sum, plain: bit by bit, byte by byte; a burst of at most 32 bits never goes unseen. -/
import Derived.Test.YtgdbbaggkoillaaKm
namespace Go.Proofs.Ytgdbbaggkoillaa
open K

def poly : BitVec 32 := 0xEDB88320#32
/-- One bit's step. -/
def crcM (r : BitVec 32) : BitVec 32 := (r >>> 1) ^^^ (poly &&& -(r &&& 1#32))
def crcIt : Nat → BitVec 32 → BitVec 32
  | 0, r => r
  | n + 1, r => crcM (crcIt n r)
def crcStep (r : BitVec 32) (c : UInt8) : BitVec 32 := crcIt 8 (r ^^^ c.toBitVec.setWidth 32)
def crcReg (r : BitVec 32) (l : List UInt8) : BitVec 32 := l.foldl crcStep r
def crcSum (l : List UInt8) : BitVec 32 := crcReg (BitVec.allOnes 32) l ^^^ BitVec.allOnes 32
def four (s : BitVec 32) : List UInt8 := [UInt8.ofNat s.toNat, UInt8.ofNat (s.toNat / 2 ^ 8), UInt8.ofNat (s.toNat / 2 ^ 16), UInt8.ofNat (s.toNat / 2 ^ 24)]
def sealL (b : List UInt8) : List UInt8 := b ++ four (crcSum b)
/-- What is sealed, opened: none if the sum is not right. -/
def openL (b : List UInt8) : Option (List UInt8) := if b.length < 4 then none else if four (crcSum (b.take (b.length - 4))) = b.drop (b.length - 4) then some (b.take (b.length - 4)) else none
theorem four_length (s : BitVec 32) : (four s).length = 4 := rfl
theorem sealL_length (b : List UInt8) : (sealL b).length = b.length + 4 := by simp [sealL, four_length]
theorem openL_seal (b : List UInt8) : openL (sealL b) = some b := by
  have h := sealL_length b
  unfold openL
  rw [if_neg (by omega)]
  have h1 : (sealL b).length - 4 = b.length := by omega
  rw [h1]
  have h2 : (sealL b).take b.length = b := by simp [sealL]
  have h3 : (sealL b).drop b.length = four (crcSum b) := by simp [sealL]
  rw [h2, h3, if_pos rfl]
theorem openL_some {b l : List UInt8} (h : openL b = some l) : b = sealL l := by
  unfold openL at h
  split at h
  · cases h
  · split at h
    · rename_i h1
      injection h with h
      subst h
      unfold sealL
      rw [h1, List.take_append_drop]
    · cases h

/-! ### linear -/
theorem crcM_if (r : BitVec 32) : crcM r = if r.getLsbD 0 then (r >>> 1) ^^^ poly else r >>> 1 := by
  unfold crcM
  have h : r &&& 1#32 = if r.getLsbD 0 then 1#32 else 0#32 := by
    apply BitVec.eq_of_getLsbD_eq
    intro i hi
    rw [BitVec.getLsbD_and]
    rcases Nat.eq_zero_or_pos i with rfl | hp
    · cases r.getLsbD 0 <;> simp
    · have : (1#32).getLsbD i = false := by simp [BitVec.getLsbD_one]; omega
      rw [this, Bool.and_false]
      split
      · exact this.symm
      · simp
  rw [h]
  cases r.getLsbD 0
  · simp
  · have : -(1#32) = BitVec.allOnes 32 := by decide
    simp only [if_true, this]
    rw [BitVec.and_allOnes]
theorem crcM_xor (r s : BitVec 32) : crcM (r ^^^ s) = crcM r ^^^ crcM s := by
  rw [crcM_if, crcM_if, crcM_if, BitVec.getLsbD_xor, BitVec.ushiftRight_xor_distrib]
  cases r.getLsbD 0 <;> cases s.getLsbD 0 <;> simp
  · rw [BitVec.xor_assoc]
  · rw [BitVec.xor_assoc, BitVec.xor_comm (s >>> 1) poly, ← BitVec.xor_assoc]
  · rw [BitVec.xor_assoc (r >>> 1), ← BitVec.xor_assoc poly, BitVec.xor_comm poly (s >>> 1), BitVec.xor_assoc (s >>> 1), BitVec.xor_self, BitVec.xor_zero]
theorem crcM_zero : crcM 0#32 = 0#32 := by decide
theorem crcM_inj0 {r : BitVec 32} (h : crcM r = 0#32) : r = 0#32 := by
  rw [crcM_if] at h
  cases h0 : r.getLsbD 0 with
  | false =>
    rw [h0] at h
    simp only [Bool.false_eq_true, if_false] at h
    apply BitVec.eq_of_getLsbD_eq
    intro i hi
    rcases Nat.eq_zero_or_pos i with rfl | hp
    · rw [h0]; simp
    · have h1 := congrArg (fun x => BitVec.getLsbD x (i - 1)) h
      simp only [BitVec.getLsbD_ushiftRight] at h1
      rw [show 1 + (i - 1) = i from by omega] at h1
      rw [h1]; simp
  | true =>
    rw [h0] at h
    simp only [if_true] at h
    have h1 := congrArg (fun x => BitVec.getLsbD x 31) h
    simp only [BitVec.getLsbD_xor, BitVec.getLsbD_ushiftRight] at h1
    rw [BitVec.getLsbD_of_ge r (1 + 31) (by decide)] at h1
    have : poly.getLsbD 31 = true := by decide
    rw [this] at h1
    simp at h1
theorem crcIt_xor (r s : BitVec 32) : ∀ n, crcIt n (r ^^^ s) = crcIt n r ^^^ crcIt n s
  | 0 => rfl
  | n + 1 => by rw [crcIt, crcIt_xor r s n, crcM_xor]; rfl
theorem crcIt_zero : ∀ n, crcIt n 0#32 = 0#32
  | 0 => rfl
  | n + 1 => by rw [crcIt, crcIt_zero n]; exact crcM_zero
theorem crcIt_inj0 {r : BitVec 32} : ∀ n, crcIt n r = 0#32 → r = 0#32
  | 0, h => h
  | n + 1, h => crcIt_inj0 n (crcM_inj0 h)
theorem crcIt_add (r : BitVec 32) (m : Nat) : ∀ n, crcIt n (crcIt m r) = crcIt (n + m) r
  | 0 => by rw [Nat.zero_add]; rfl
  | n + 1 => by rw [Nat.succ_add]; exact congrArg crcM (crcIt_add r m n)

/-! ### bits -/
def bitB (b : Bool) : BitVec 32 := if b then 1#32 else 0#32
def feed (r : BitVec 32) (b : Bool) : BitVec 32 := crcM (r ^^^ bitB b)
def bitsOf (c : UInt8) : List Bool := (List.range 8).map fun i => c.toNat.testBit i
def bitsL (l : List UInt8) : List Bool := l.flatMap bitsOf
theorem crcM_even (r : BitVec 32) (h : r.getLsbD 0 = false) : crcM r = r >>> 1 := by rw [crcM_if, h]; simp
/-- The rest of a byte waits above. -/
theorem step_bits (c : Nat) (hc : c < 256) (r : BitVec 32) : ∀ n, n ≤ 8 → crcIt n (r ^^^ BitVec.ofNat 32 c) = (((List.range n).map fun i => c.testBit i).foldl feed r) ^^^ BitVec.ofNat 32 (c / 2 ^ n)
  | 0, _ => by simp [crcIt]
  | n + 1, hn => by
    have ih := step_bits c hc r n (by omega)
    rw [crcIt, ih, List.range_succ, List.map_append, List.foldl_append]
    simp only [List.map_cons, List.map_nil, List.foldl_cons, List.foldl_nil]
    generalize List.foldl feed r (List.map (fun i => c.testBit i) (List.range n)) = q
    unfold feed
    have hs : BitVec.ofNat 32 (c / 2 ^ n) = bitB (c.testBit n) ^^^ BitVec.ofNat 32 (2 * (c / 2 ^ (n + 1))) := by
      have h2 : c / 2 ^ (n + 1) = c / 2 ^ n / 2 := by rw [Nat.pow_succ, Nat.div_div_eq_div_mul]
      have hb : c.testBit n = decide (c / 2 ^ n % 2 = 1) := Nat.testBit_eq_decide_div_mod_eq
      rw [h2, hb]
      have hx : c / 2 ^ n < 256 := Nat.lt_of_le_of_lt (Nat.div_le_self _ _) hc
      generalize c / 2 ^ n = x at hx
      have key : ∀ y : Fin 256, BitVec.ofNat 32 y.val = bitB (decide (y.val % 2 = 1)) ^^^ BitVec.ofNat 32 (2 * (y.val / 2)) := by decide +kernel
      exact key ⟨x, hx⟩
    rw [hs, ← BitVec.xor_assoc, crcM_xor]
    congr 1
    have hx : c / 2 ^ (n + 1) < 256 := Nat.lt_of_le_of_lt (Nat.div_le_self _ _) hc
    generalize c / 2 ^ (n + 1) = x at hx
    have key : ∀ y : Fin 256, crcM (BitVec.ofNat 32 (2 * y.val)) = BitVec.ofNat 32 y.val := by decide +kernel
    exact key ⟨x, hx⟩
theorem step_feed (r : BitVec 32) (c : UInt8) : crcStep r c = (bitsOf c).foldl feed r := by
  have hc := c.toNat_lt
  have h := step_bits c.toNat hc r 8 (by omega)
  have h1 : c.toNat / 2 ^ 8 = 0 := Nat.div_eq_of_lt hc
  rw [h1, BitVec.xor_zero] at h
  unfold crcStep bitsOf
  rw [← h]
  congr 2
  apply BitVec.eq_of_toNat_eq
  rw [BitVec.toNat_setWidth, BitVec.toNat_ofNat]; rfl
theorem reg_feed : ∀ (l : List UInt8) (r : BitVec 32), crcReg r l = (bitsL l).foldl feed r
  | [], r => rfl
  | c :: l, r => by
    show crcReg (crcStep r c) l = _
    rw [reg_feed l, step_feed]
    simp only [bitsL, List.flatMap_cons, List.foldl_append]
theorem feed_xor (r s : BitVec 32) (a b : Bool) : feed (r ^^^ s) (a ^^ b) = feed r a ^^^ feed s b := by
  unfold feed
  rw [← crcM_xor]
  congr 1
  have : bitB (a ^^ b) = bitB a ^^^ bitB b := by cases a <;> cases b <;> decide
  rw [this, BitVec.xor_assoc, BitVec.xor_assoc]
  congr 1
  rw [← BitVec.xor_assoc, BitVec.xor_comm s, BitVec.xor_assoc]
def xorB : List Bool → List Bool → List Bool := List.zipWith (· ^^ ·)
theorem feeds_xor : ∀ (l m : List Bool) (r s : BitVec 32), l.length = m.length → (xorB l m).foldl feed (r ^^^ s) = l.foldl feed r ^^^ m.foldl feed s
  | [], [], r, s, _ => rfl
  | a :: l, b :: m, r, s, h => by
    show (xorB l m).foldl feed (feed (r ^^^ s) (a ^^ b)) = _
    rw [feed_xor]
    exact feeds_xor l m _ _ (by simpa using h)
  | [], _ :: _, _, _, h => by simp at h
  | _ :: _, [], _, _, h => by simp at h
theorem feed_zeros : ∀ (n : Nat), (List.replicate n false).foldl feed 0#32 = 0#32
  | 0 => rfl
  | n + 1 => by
    show (List.replicate n false).foldl feed (feed 0#32 false) = _
    have : feed 0#32 false = 0#32 := by decide
    rw [this]; exact feed_zeros n
theorem feed_zeros_inj : ∀ (n : Nat) (r : BitVec 32), (List.replicate n false).foldl feed r = 0#32 → r = 0#32
  | 0, r, h => h
  | n + 1, r, h => by
    have h1 := feed_zeros_inj n (feed r false) h
    unfold feed at h1
    have h2 := crcM_inj0 h1
    simpa [bitB] using h2
/-- The word whose bits these are, the first one lowest. -/
def wordOf : List Bool → Nat
  | [] => 0
  | b :: l => b.toNat + 2 * wordOf l
theorem wordOf_append (l : List Bool) (b : Bool) : wordOf (l ++ [b]) = wordOf l + 2 ^ l.length * b.toNat := by
  induction l with
  | nil => simp [wordOf]
  | cons a l ih =>
    simp only [List.cons_append, wordOf, ih, List.length_cons, Nat.pow_succ]
    rw [Nat.mul_add]
    have : 2 * (2 ^ l.length * b.toNat) = 2 ^ l.length * 2 * b.toNat := by rw [Nat.mul_comm (2 ^ l.length) 2, Nat.mul_assoc]
    omega
theorem wordOf_lt : ∀ l : List Bool, wordOf l < 2 ^ l.length
  | [] => by decide
  | b :: l => by
    have := wordOf_lt l
    have hb : b.toNat ≤ 1 := by cases b <;> decide
    simp only [wordOf, List.length_cons, Nat.pow_succ]
    omega
theorem wordOf_zero : ∀ l : List Bool, wordOf l = 0 → ∀ b ∈ l, b = false
  | [], _, b, h => by cases h
  | a :: l, h, b, hb => by
    simp only [wordOf] at h
    rcases List.mem_cons.1 hb with rfl | hb
    · cases b with
      | false => rfl
      | true => simp at h
    · refine wordOf_zero l ?_ b hb
      omega
theorem crcIt_pow (n : Nat) (hn : n < 32) : crcIt n (BitVec.ofNat 32 (2 ^ n)) = 1#32 := by
  have key : ∀ y : Fin 32, crcIt y.val (BitVec.ofNat 32 (2 ^ y.val)) = 1#32 := by decide +kernel
  exact key ⟨n, hn⟩
theorem feed_word : ∀ (n : Nat) (l : List Bool), l.length = n → n ≤ 32 → l.foldl feed 0#32 = crcIt n (BitVec.ofNat 32 (wordOf l)) := by
  intro n
  induction n with
  | zero => intro l hl _; rw [List.eq_nil_of_length_eq_zero hl]; rfl
  | succ n ih =>
    intro l hl hn
    obtain ⟨m, b, rfl⟩ : ∃ m b, l = m ++ [b] := ⟨l.dropLast, l.getLast (by intro h; subst h; simp at hl), (List.dropLast_concat_getLast _).symm⟩
    have hm : m.length = n := by simpa using hl
    rw [List.foldl_append, ih m hm (by omega)]
    show crcM (crcIt n (BitVec.ofNat 32 (wordOf m)) ^^^ bitB b) = crcM (crcIt n (BitVec.ofNat 32 (wordOf (m ++ [b]))))
    congr 1
    rw [wordOf_append, hm]
    cases b with
    | false => simp [bitB]
    | true =>
      have hlt : wordOf m < 2 ^ n := hm ▸ wordOf_lt m
      have h1 : bitB true = crcIt n (BitVec.ofNat 32 (2 ^ n)) := (crcIt_pow n (by omega)).symm
      rw [h1, ← crcIt_xor]
      congr 1
      have h2 : wordOf m + 2 ^ n * true.toNat = wordOf m ^^^ 2 ^ n := by
        have h3 := Nat.two_pow_add_eq_or_of_lt hlt 1
        have h4 : true.toNat = 1 := rfl
        have h5 : (2 ^ n * 1) &&& wordOf m = 0 := by
          rw [Nat.mul_one]
          apply Nat.eq_of_testBit_eq
          intro i
          rw [Nat.testBit_and, Nat.zero_testBit, Nat.testBit_two_pow]
          by_cases hi : n = i
          · subst hi
            rw [Nat.testBit_lt_two_pow hlt, Bool.and_false]
          · simp [hi]
        rw [h4, Nat.add_comm, h3, Nat.mul_one]
        rw [Nat.mul_one] at h5
        apply Nat.eq_of_testBit_eq
        intro i
        have h6 := congrArg (fun x => Nat.testBit x i) h5
        simp only [Nat.testBit_and, Nat.zero_testBit] at h6
        rw [Nat.testBit_or, Nat.testBit_xor]
        revert h6
        generalize (2 ^ n).testBit i = u
        generalize (wordOf m).testBit i = v
        cases u <;> cases v <;> decide
      rw [h2, BitVec.ofNat_xor]
/-- Zeros, at most 32 bits not all zero, zeros: not zero. -/
theorem burst_seen (i j : Nat) (l : List Bool) (hl : l.length ≤ 32) (h : (List.replicate i false ++ l ++ List.replicate j false).foldl feed 0#32 = 0#32) : ∀ b ∈ l, b = false := by
  rw [List.foldl_append, List.foldl_append, feed_zeros] at h
  have h1 := feed_zeros_inj j _ h
  rw [feed_word l.length l rfl hl] at h1
  have h2 := crcIt_inj0 _ h1
  refine wordOf_zero l ?_
  have h3 := congrArg BitVec.toNat h2
  rw [BitVec.toNat_ofNat, Nat.mod_eq_of_lt (Nat.lt_of_lt_of_le (wordOf_lt l) (Nat.pow_le_pow_right (by decide) hl))] at h3
  simpa using h3

/-! ### the sum behind the bytes: a fixed rest -/
theorem bits_byte (n k : Nat) : bitsOf (UInt8.ofNat (n / 2 ^ (8 * k))) = (List.range 8).map fun j => n.testBit (8 * k + j) := by
  unfold bitsOf
  apply List.map_congr_left
  intro j hj
  have hj : j < 8 := List.mem_range.1 hj
  rw [UInt8.toNat_ofNat', Nat.testBit_mod_two_pow, Nat.testBit_div_two_pow, decide_eq_true hj, Bool.true_and, Nat.add_comm j]
theorem bits_four (x : BitVec 32) : bitsL (four x) = (List.range 32).map fun j => x.getLsbD j := by
  have h0 := bits_byte x.toNat 0
  have h1 := bits_byte x.toNat 1
  have h2 := bits_byte x.toNat 2
  have h3 := bits_byte x.toNat 3
  rw [Nat.mul_zero, Nat.pow_zero, Nat.div_one] at h0
  unfold bitsL four
  simp only [List.flatMap_cons, List.flatMap_nil]
  have e0 : bitsOf (UInt8.ofNat x.toNat) = _ := h0
  have e1 : bitsOf (UInt8.ofNat (x.toNat / 2 ^ 8)) = _ := h1
  have e2 : bitsOf (UInt8.ofNat (x.toNat / 2 ^ 16)) = _ := h2
  have e3 : bitsOf (UInt8.ofNat (x.toNat / 2 ^ 24)) = _ := h3
  rw [e0, e1, e2, e3]
  rfl
theorem reg_four_n (x : BitVec 32) : ∀ n, n ≤ 32 → ((List.range n).map fun j => x.getLsbD j).foldl feed x = x >>> n
  | 0, _ => by simp
  | n + 1, hn => by
    rw [List.range_succ, List.map_append, List.foldl_append, reg_four_n x n (by omega)]
    show crcM (x >>> n ^^^ bitB (x.getLsbD n)) = _
    have hb : (x >>> n ^^^ bitB (x.getLsbD n)).getLsbD 0 = false := by
      rw [BitVec.getLsbD_xor, BitVec.getLsbD_ushiftRight, Nat.add_zero]
      cases x.getLsbD n <;> decide
    rw [crcM_even _ hb, BitVec.ushiftRight_xor_distrib]
    have : bitB (x.getLsbD n) >>> 1 = 0#32 := by cases x.getLsbD n <;> decide
    rw [this, BitVec.xor_zero, ← BitVec.shiftRight_add]
theorem reg_four (x : BitVec 32) : crcReg x (four x) = 0#32 := by
  rw [reg_feed, bits_four, reg_four_n x 32 (by decide)]
  apply BitVec.eq_of_getLsbD_eq
  intro i hi
  rw [BitVec.getLsbD_ushiftRight, BitVec.getLsbD_of_ge _ _ (by omega)]; simp
theorem xorB_map {α : Type} (l : List α) (f g : α → Bool) : xorB (l.map f) (l.map g) = l.map fun x => f x ^^ g x := by
  induction l with
  | nil => rfl
  | cons a l ih => simp only [List.map_cons, xorB, List.zipWith_cons_cons] at *; rw [ih]
theorem reg_append (r : BitVec 32) (a b : List UInt8) : crcReg r (a ++ b) = crcReg (crcReg r a) b := List.foldl_append
theorem reg_seal (b : List UInt8) : crcReg (BitVec.allOnes 32) (sealL b) = crcReg 0#32 (four (BitVec.allOnes 32)) := by
  unfold sealL crcSum
  rw [reg_append]
  generalize crcReg (BitVec.allOnes 32) b = x
  have h := feeds_xor (bitsL (four x)) (bitsL (four (BitVec.allOnes 32))) x 0#32 (by rw [bits_four, bits_four]; simp)
  rw [← reg_feed, ← reg_feed, reg_four, BitVec.zero_xor, BitVec.xor_zero] at h
  rw [reg_feed, ← h, bits_four, bits_four, bits_four, xorB_map]
  congr 1
  apply List.map_congr_left
  intro j _
  rw [BitVec.getLsbD_xor]
theorem bitsOf_inj {a b : UInt8} (h : bitsOf a = bitsOf b) : a = b := by
  apply UInt8.toNat_inj.1
  apply Nat.eq_of_testBit_eq
  intro i
  by_cases hi : i < 8
  · have h1 := congrArg (fun l => l[i]?) h
    simp only [bitsOf, List.getElem?_map, List.getElem?_range hi, Option.map_some] at h1
    injection h1
  · rw [Nat.testBit_lt_two_pow (Nat.lt_of_lt_of_le a.toNat_lt (Nat.pow_le_pow_right (by decide) (by omega))), Nat.testBit_lt_two_pow (Nat.lt_of_lt_of_le b.toNat_lt (Nat.pow_le_pow_right (by decide) (by omega)))]
theorem bitsOf_length (a : UInt8) : (bitsOf a).length = 8 := by simp [bitsOf]
theorem bitsL_cons (a : UInt8) (l : List UInt8) : bitsL (a :: l) = bitsOf a ++ bitsL l := List.flatMap_cons
theorem bitsL_length : ∀ l : List UInt8, (bitsL l).length = 8 * l.length
  | [] => rfl
  | a :: l => by rw [bitsL_cons, List.length_append, bitsOf_length, bitsL_length l, List.length_cons]; omega
theorem bitsL_inj : ∀ {a b : List UInt8}, bitsL a = bitsL b → a = b
  | [], [], _ => rfl
  | [], y :: b, h => by have := congrArg List.length h; rw [bitsL_length, bitsL_length] at this; simp at this
  | x :: a, [], h => by have := congrArg List.length h; rw [bitsL_length, bitsL_length] at this; simp at this
  | x :: a, y :: b, h => by
    rw [bitsL_cons, bitsL_cons] at h
    obtain ⟨h1, h2⟩ := List.append_inj h (by rw [bitsOf_length, bitsOf_length])
    rw [bitsOf_inj h1, bitsL_inj h2]
theorem xorB_false : ∀ (l m : List Bool), l.length = m.length → (∀ b ∈ xorB l m, b = false) → l = m
  | [], [], _, _ => rfl
  | a :: l, b :: m, h, hb => by
    have h1 : (a ^^ b) = false := hb _ (List.mem_cons_self ..)
    have h2 : a = b := by cases a <;> cases b <;> first | rfl | cases h1
    rw [h2, xorB_false l m (by simpa using h) (fun c hc => hb c (List.mem_cons_of_mem _ hc))]
  | [], _ :: _, h, _ => by simp at h
  | _ :: _, [], h, _ => by simp at h
/-- What a burst of at most 32 bits has turned does not open. -/
theorem open_burst (b t : List UInt8) (ht : t.length = (sealL b).length) (i j : Nat) (l : List Bool) (hl : l.length ≤ 32) (hx : xorB (bitsL t) (bitsL (sealL b)) = List.replicate i false ++ l ++ List.replicate j false) (hne : t ≠ sealL b) : openL t = none := by
  cases ho : openL t with
  | none => rfl
  | some m =>
    exfalso
    have hm := openL_some ho
    have hlen : (bitsL t).length = (bitsL (sealL b)).length := by rw [bitsL_length, bitsL_length, ht]
    have h := feeds_xor (bitsL t) (bitsL (sealL b)) (BitVec.allOnes 32) (BitVec.allOnes 32) hlen
    rw [← reg_feed, ← reg_feed, reg_seal b, hm, reg_seal m, BitVec.xor_self, BitVec.xor_self, ← hm, hx] at h
    have h1 := burst_seen i j l hl h
    apply hne
    apply bitsL_inj
    apply xorB_false _ _ hlen
    rw [hx]
    intro c hc
    simp only [List.mem_append, List.mem_replicate] at hc
    rcases hc with (hc | hc) | hc
    · exact hc.2
    · exact h1 c hc
    · exact hc.2

/-! ### in the model's words -/
theorem bits_toNat (x : BitVec 32) : BitVec.ofInt IntKind.u32.bits ((x.toNat : Nat) : Int) = x := by
  apply BitVec.eq_of_toNat_eq
  rw [BitVec.ofInt_natCast, BitVec.toNat_ofNat]
  exact Nat.mod_eq_of_lt x.isLt
theorem wrap_toNat (x : BitVec 32) : IntKind.u32.wrap ((x.toNat : Nat) : Int) = ((x.toNat : Nat) : Int) := wu32 (by omega) (by have := x.isLt; omega)
theorem bx32 (x y : BitVec 32) : bitv .xor .u32 ((x.toNat : Nat) : Int) ((y.toNat : Nat) : Int) = (((x ^^^ y).toNat : Nat) : Int) := by
  unfold bitv
  simp only [bits_toNat]
  exact wrap_toNat _
theorem ba32 (x y : BitVec 32) : bitv .and .u32 ((x.toNat : Nat) : Int) ((y.toNat : Nat) : Int) = (((x &&& y).toNat : Nat) : Int) := by
  unfold bitv
  simp only [bits_toNat]
  exact wrap_toNat _
theorem bs32 (x : BitVec 32) : ((x.toNat : Nat) : Int).fdiv (2 ^ (min (1 : Int).toNat IntKind.u32.bits)) = (((x >>> 1).toNat : Nat) : Int) := by
  rw [BitVec.toNat_ushiftRight, Nat.shiftRight_eq_div_pow]
  show ((x.toNat : Nat) : Int).fdiv 2 = ((x.toNat / 2 : Nat) : Int)
  rw [Int.fdiv_eq_ediv_of_nonneg _ (by decide)]
  omega
theorem bn32 (x : BitVec 32) : IntKind.u32.wrap (-((x.toNat : Nat) : Int)) = (((-x).toNat : Nat) : Int) := by
  have h := x.isLt
  rw [BitVec.toNat_neg]
  simp only [IntKind.wrap, IntKind.bits, IntKind.signed]
  simp
  omega
theorem bu32 (c : UInt8) : IntKind.u32.wrap ((c.toNat : Nat) : Int) = (((c.toBitVec.setWidth 32).toNat : Nat) : Int) := by
  have h := c.toNat_lt
  rw [wu32 (by omega) (by omega), BitVec.toNat_setWidth]
  congr 1
  have : c.toBitVec.toNat = c.toNat := rfl
  omega
theorem four_get (s : BitVec 32) (i : Nat) (h : i < 4) : Value.int .u8 (IntKind.u8.wrap (((s.toNat : Nat) : Int).fdiv (2 ^ (min (8 * (i : Int)).toNat IntKind.u32.bits)))) = u8 ((four s).getD i 0) := by
  have h1 : min (8 * (i : Int)).toNat IntKind.u32.bits = 8 * i := by show min (8 * (i : Int)).toNat 32 = 8 * i; omega
  rw [h1, Int.fdiv_eq_ediv_of_nonneg _ (Int.pow_nonneg (by decide))]
  have h2 : ((s.toNat : Nat) : Int) / (2 ^ (8 * i)) = ((s.toNat / 2 ^ (8 * i) : Nat) : Int) := by push_cast; rfl
  rw [h2]
  have key : (four s).getD i 0 = UInt8.ofNat (s.toNat / 2 ^ (8 * i)) := by
    match i, h with
    | 0, _ => simp [four] | 1, _ => rfl | 2, _ => rfl | 3, _ => rfl
  rw [key]
  simp [u8, IntKind.wrap, IntKind.bits, IntKind.signed]
end Go.Proofs.Ytgdbbaggkoillaa
