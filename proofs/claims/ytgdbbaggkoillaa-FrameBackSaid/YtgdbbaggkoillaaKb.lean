/- The walk's own small logic, second part: memory as a list of items that lie apart. -/
import Derived.Test.YtgdbbaggkoillaaKa
import Derived.Laws.Rows
import Derived.Laws.AppendOwn
import Derived.Deep.AppendSrc
namespace Go.Proofs.Ytgdbbaggkoillaa
namespace K

/-- From w to w' nothing below w's size has turned but what F names. -/
structure Chg (F : Nat → Prop) (w w' : World) : Prop where
  os : w'.os = w.os
  tape : w'.tape = w.tape
  output : w'.output = w.output
  size : w.heap.size ≤ w'.heap.size
  same : ∀ b, b < w.heap.size → ¬ F b → w'.heap[b]? = w.heap[b]?
def No : Nat → Prop := fun _ => False

theorem Chg.refl (F : Nat → Prop) (w : World) : Chg F w w := ⟨rfl, rfl, rfl, Nat.le_refl _, fun _ _ _ => rfl⟩
theorem Chg.trans' {F G H : Nat → Prop} {w w' w'' : World} (h : Chg F w w') (k : Chg G w' w'') (hF : ∀ b, b < w.heap.size → F b → H b) (hG : ∀ b, b < w.heap.size → G b → H b) : Chg H w w'' :=
  ⟨k.os.trans h.os, k.tape.trans h.tape, k.output.trans h.output, Nat.le_trans h.size k.size, fun b hb hn =>
    (k.same b (Nat.lt_of_lt_of_le hb h.size) (fun hg => hn (hG b hb hg))).trans (h.same b hb (fun hf => hn (hF b hb hf)))⟩
theorem Chg.trans {F : Nat → Prop} {w w' w'' : World} (h : Chg F w w') (k : Chg F w' w'') : Chg F w w'' := h.trans' k (fun _ _ h => h) (fun _ _ h => h)
theorem Chg.mono {F G : Nat → Prop} {w w' : World} (h : Chg F w w') (hF : ∀ b, F b → G b) : Chg G w w' :=
  ⟨h.os, h.tape, h.output, h.size, fun b hb hn => h.same b hb (fun hf => hn (hF b hf))⟩
theorem Chg.of_no {G : Nat → Prop} {w w' : World} (h : Chg No w w') : Chg G w w' := h.mono (fun _ h => h.elim)
theorem Chg.alloc (F : Nat → Prop) (w : World) (o : Obj) : Chg F w (w.alloc o) :=
  ⟨rfl, rfl, rfl, by simp, fun k hk _ => heap_alloc_old w o k hk⟩
theorem Chg.drawn (F : Nat → Prop) (w : World) (n : Nat) : Chg F w { w with drawn := n } := ⟨rfl, rfl, rfl, Nat.le_refl _, fun _ _ _ => rfl⟩
theorem Chg.grown {w w' : World} {r : Option Nat} (h : w.grownBy w' r) : Chg (fun b => r = some b) w w' :=
  ⟨h.os, h.tape, h.output, h.size, fun b hb hn => h.block b hb (fun e => hn e.symm)⟩
theorem Chg.cell {F : Nat → Prop} {w w' : World} (h : Chg F w w') {a : Addr} {v : Value} (hc : w.cell? a = some v) (hn : ¬ F a.block) : w'.cell? a = some v :=
  (World.cell?_of_block (h.same a.block (World.block_lt_of_cell? w a hc) hn)).trans hc

structure It where
  foot : Nat → Prop
  holds : World → Prop
  keep : ∀ w w', holds w → (∀ b, foot b → w'.heap[b]? = w.heap[b]?) → holds w'
  live : ∀ w b, holds w → foot b → b < w.heap.size

/-- A block that is known whole. -/
def bk (b : Nat) (cs : List Value) (T : TypeId) : It where
  foot := fun k => k = b
  holds := fun w => w.heap[b]? = some (.cells cs.toArray T (0, 0))
  keep := fun w w' h hk => (hk b rfl).trans h
  live := fun w k h hk => by subst hk; exact (Array.getElem?_eq_some_iff.1 h).1

/-- A slice of one's own, n elements of sz cells, with these cells. -/
def own (T : TypeId) (sz : Nat) (a : Option Addr) (n c : Nat) (cs : List Value) : It where
  foot := fun k => a.map (·.block) = some k
  holds := fun w => w.ownsRow 0 T sz (.slice a n c) n cs
  keep := fun w w' h hk => by
    refine ⟨h.1, ?_⟩
    rcases h.2 with hn | ⟨g, cap, cur, hv, hb, hg, rest⟩
    · exact .inl hn
    · refine .inr ⟨g, cap, cur, hv, hb, ?_, rest⟩
      injection hv with h1 _ _
      rw [hk g (by rw [h1]; rfl)]
      exact hg
  live := fun w k h hk => by
    rcases h.2 with ⟨hv, _⟩ | ⟨g, cap, cur, hv, hb, hg, rest⟩
    · injection hv with h1 _ _
      rw [h1] at hk; cases hk
    · injection hv with h1 _ _
      rw [h1] at hk
      simp only [Option.map_some, Option.some.injEq] at hk
      subst hk
      exact (Array.getElem?_eq_some_iff.1 hg).1

def setN {α : Type} : List α → Nat → α → List α
  | [], _, _ => []
  | _ :: l, 0, y => y :: l
  | x :: l, n + 1, y => x :: setN l n y
theorem setN_eq {α : Type} : ∀ (l : List α) (n : Nat) (y : α), setN l n y = l.set n y
  | [], _, _ => rfl
  | x :: _, 0, _ => rfl
  | _ :: l, n + 1, y => by rw [setN, setN_eq l n y]; rfl
theorem nth_setN {α : Type} (l : List α) (k : Nat) (y x : α) (i : Nat) (h : nth (setN l k y) i = some x) : (i = k ∧ x = y) ∨ (i ≠ k ∧ nth l i = some x) := by
  rw [nth_eq, setN_eq, List.getElem?_set] at h
  by_cases hk : k = i
  · subst hk
    rw [if_pos rfl] at h
    split at h
    · injection h with h; exact .inl ⟨rfl, h.symm⟩
    · cases h
  · rw [if_neg hk] at h
    exact .inr ⟨Ne.symm hk, by rw [nth_eq]; exact h⟩
theorem nth_snoc {α : Type} (l : List α) (y x : α) (i : Nat) (h : nth (l ++ [y]) i = some x) : (i = l.length ∧ x = y) ∨ (i < l.length ∧ nth l i = some x) := by
  rw [nth_eq] at h
  by_cases hk : i < l.length
  · rw [List.getElem?_append_left hk] at h
    exact .inr ⟨hk, by rw [nth_eq]; exact h⟩
  · rw [List.getElem?_append_right (by omega)] at h
    have : i - l.length = 0 := by
      rcases Nat.eq_zero_or_pos (i - l.length) with h' | h'
      · exact h'
      · rw [List.getElem?_eq_none (by simp; omega)] at h; cases h
    rw [this] at h
    injection h with h
    exact .inl ⟨by omega, h.symm⟩
theorem nth_lt {α : Type} (l : List α) (i : Nat) (x : α) (h : nth l i = some x) : i < l.length := by
  rw [nth_eq] at h
  exact (List.getElem?_eq_some_iff.1 h).1

structure Mem (w0 : World) (F0 : Nat → Prop) (w : World) (L : List It) : Prop where
  chg : Chg F0 w0 w
  ok : ∀ i x, nth L i = some x → x.holds w
  mine : ∀ i x, nth L i = some x → ∀ b, x.foot b → F0 b ∨ w0.heap.size ≤ b
  dis : ∀ i j x y, nth L i = some x → nth L j = some y → i ≠ j → ∀ b, x.foot b → ¬ y.foot b

section
variable {w0 w w' : World} {F0 : Nat → Prop} {L : List It}

theorem Mem.nil (F0 : Nat → Prop) (w : World) : Mem w F0 w [] := by
  refine ⟨Chg.refl _ _, ?_, ?_, ?_⟩
  · intro i x h; cases h
  · intro i x h; cases h
  · intro i j x y h; cases h
theorem nth_one {α : Type} {J x : α} {i : Nat} (h : nth [J] i = some x) : i = 0 ∧ x = J := by
  rcases i with _ | i
  · injection h with h; exact ⟨rfl, h.symm⟩
  · cases h
theorem nth_two {α : Type} {J J' x : α} {i : Nat} (h : nth [J, J'] i = some x) : (i = 0 ∧ x = J) ∨ (i = 1 ∧ x = J') := by
  rcases i with _ | _ | i
  · injection h with h; exact .inl ⟨rfl, h.symm⟩
  · injection h with h; exact .inr ⟨rfl, h.symm⟩
  · cases h
/-- One item that was handed in. -/
theorem Mem.one {w : World} {J : It} (h : J.holds w) : Mem w J.foot w [J] := by
  refine ⟨Chg.refl _ _, ?_, ?_, ?_⟩
  · intro i x hx
    obtain ⟨_, rfl⟩ := nth_one hx
    exact h
  · intro i x hx b hb
    obtain ⟨_, rfl⟩ := nth_one hx
    exact .inl hb
  · intro i j x y hx hy hne
    obtain ⟨hi, _⟩ := nth_one hx
    obtain ⟨hj, _⟩ := nth_one hy
    exact absurd (hi.trans hj.symm) hne
/-- Two items that were handed in. -/
theorem Mem.two {w : World} {J J' : It} (h : J.holds w) (h' : J'.holds w) (hd : ∀ b, J.foot b → ¬ J'.foot b) : Mem w (fun b => J.foot b ∨ J'.foot b) w [J, J'] := by
  refine ⟨Chg.refl _ _, ?_, ?_, ?_⟩
  · intro i x hx
    rcases nth_two hx with ⟨_, rfl⟩ | ⟨_, rfl⟩
    · exact h
    · exact h'
  · intro i x hx b hb
    rcases nth_two hx with ⟨_, rfl⟩ | ⟨_, rfl⟩
    · exact .inl (.inl hb)
    · exact .inl (.inr hb)
  · intro i j x y hx hy hne b hb hb'
    rcases nth_two hx with ⟨hi, rfl⟩ | ⟨hi, rfl⟩ <;> rcases nth_two hy with ⟨hj, rfl⟩ | ⟨hj, rfl⟩
    · exact hne (hi.trans hj.symm)
    · exact hd b hb hb'
    · exact hd b hb' hb
    · exact hne (hi.trans hj.symm)

theorem Mem.frame (m : Mem w0 F0 w L) (h : Chg No w w') : Mem w0 F0 w' L :=
  ⟨m.chg.trans h.of_no, fun i x hx => x.keep w w' (m.ok i x hx) (fun b hb => h.same b (x.live w b (m.ok i x hx) hb) (fun h => h)), m.mine, m.dis⟩

/-- An item more, in new blocks. -/
theorem Mem.add (m : Mem w0 F0 w L) {J : It} (h : Chg No w w') (hJ : J.holds w') (hf : ∀ b, J.foot b → w.heap.size ≤ b) : Mem w0 F0 w' (L ++ [J]) := by
  have m' := m.frame h
  refine ⟨m'.chg, fun i x hx => ?_, fun i x hx => ?_, fun i j x y hx hy hne b hb hb' => ?_⟩
  · rcases nth_snoc L J x i hx with ⟨_, rfl⟩ | ⟨_, hx⟩
    · exact hJ
    · exact m'.ok i x hx
  · rcases nth_snoc L J x i hx with ⟨_, rfl⟩ | ⟨_, hx⟩
    · exact fun b hb => .inr (Nat.le_trans m.chg.size (hf b hb))
    · exact m'.mine i x hx
  · rcases nth_snoc L J x i hx with ⟨hi, hxJ⟩ | ⟨_, hx2⟩
    · rcases nth_snoc L J y j hy with ⟨hj, hyJ⟩ | ⟨_, hy2⟩
      · exact hne (hi.trans hj.symm)
      · have := y.live w b (m.ok j y hy2) hb'
        rw [hxJ] at hb
        have := hf b hb
        omega
    · rcases nth_snoc L J y j hy with ⟨hj, hyJ⟩ | ⟨_, hy2⟩
      · have := x.live w b (m.ok i x hx2) hb
        rw [hyJ] at hb'
        have := hf b hb'
        omega
      · exact m.dis i j x y hx2 hy2 hne b hb hb'

/-- Item k turned into J. -/
theorem Mem.turn (m : Mem w0 F0 w L) {I J : It} (k : Nat) (hk : nth L k = some I) (h : Chg I.foot w w') (hJ : J.holds w') (hf : ∀ b, J.foot b → I.foot b ∨ w.heap.size ≤ b) : Mem w0 F0 w' (setN L k J) := by
  have old : ∀ i x, i ≠ k → nth L i = some x → x.holds w' := fun i x hne hx =>
    x.keep w w' (m.ok i x hx) (fun b hb => h.same b (x.live w b (m.ok i x hx) hb) (fun hI => m.dis i k x I hx hk hne b hb hI))
  have apart : ∀ i x, i ≠ k → nth L i = some x → ∀ b, x.foot b → ¬ J.foot b := fun i x hne hx b hb hJb => by
    rcases hf b hJb with hI | hlt
    · exact m.dis i k x I hx hk hne b hb hI
    · have := x.live w b (m.ok i x hx) hb
      omega
  refine ⟨m.chg.trans' h (fun _ _ h => h) (fun b hb hI => ?_), fun i x hx => ?_, fun i x hx => ?_, fun i j x y hx hy hne b hb hb' => ?_⟩
  · rcases m.mine k I hk b hI with h' | h'
    · exact h'
    · omega
  · rcases nth_setN L k J x i hx with ⟨_, rfl⟩ | ⟨hne, hx⟩
    · exact hJ
    · exact old i x hne hx
  · rcases nth_setN L k J x i hx with ⟨_, rfl⟩ | ⟨hne, hx⟩
    · intro b hb
      rcases hf b hb with hI | hlt
      · exact m.mine k I hk b hI
      · exact .inr (Nat.le_trans m.chg.size hlt)
    · exact m.mine i x hx
  · rcases nth_setN L k J x i hx with ⟨hi, hxJ⟩ | ⟨hni, hx2⟩
    · rcases nth_setN L k J y j hy with ⟨hj, hyJ⟩ | ⟨hnj, hy2⟩
      · exact hne (hi.trans hj.symm)
      · exact apart j y hnj hy2 b hb' (hxJ ▸ hb)
    · rcases nth_setN L k J y j hy with ⟨hj, hyJ⟩ | ⟨hnj, hy2⟩
      · exact apart i x hni hx2 b hb (hyJ ▸ hb')
      · exact m.dis i j x y hx2 hy2 hne b hb hb'

/-- Two items turned at once. -/
theorem Mem.turn2 (m : Mem w0 F0 w L) {I I' J J' : It} (k k' : Nat) (hk : nth L k = some I) (hk' : nth L k' = some I') (hkk : k ≠ k') (h : Chg (fun b => I.foot b ∨ I'.foot b) w w') (hJ : J.holds w') (hJ' : J'.holds w')
    (hf : ∀ b, J.foot b → (I.foot b ∨ I'.foot b) ∨ w.heap.size ≤ b) (hf' : ∀ b, J'.foot b → (I.foot b ∨ I'.foot b) ∨ w.heap.size ≤ b) (hd : ∀ b, J.foot b → ¬ J'.foot b) : Mem w0 F0 w' (setN (setN L k J) k' J') := by
  have old : ∀ i x, i ≠ k → i ≠ k' → nth L i = some x → x.holds w' := fun i x hne hne' hx =>
    x.keep w w' (m.ok i x hx) (fun b hb => h.same b (x.live w b (m.ok i x hx) hb) (fun hI => hI.elim (m.dis i k x I hx hk hne b hb) (m.dis i k' x I' hx hk' hne' b hb)))
  have apart : ∀ i x, i ≠ k → i ≠ k' → nth L i = some x → ∀ b, x.foot b → ¬ ((I.foot b ∨ I'.foot b) ∨ w.heap.size ≤ b) := fun i x hne hne' hx b hb hJb => by
    rcases hJb with (hI | hI) | hlt
    · exact m.dis i k x I hx hk hne b hb hI
    · exact m.dis i k' x I' hx hk' hne' b hb hI
    · have := x.live w b (m.ok i x hx) hb
      omega
  have three : ∀ i x, nth (setN (setN L k J) k' J') i = some x → (i = k' ∧ x = J') ∨ (i = k ∧ x = J) ∨ (i ≠ k ∧ i ≠ k' ∧ nth L i = some x) := fun i x hx => by
    rcases nth_setN _ k' J' x i hx with ⟨hi, rfl⟩ | ⟨hne, hx⟩
    · exact .inl ⟨hi, rfl⟩
    · rcases nth_setN L k J x i hx with ⟨hi, rfl⟩ | ⟨hne', hx⟩
      · exact .inr (.inl ⟨hi, rfl⟩)
      · exact .inr (.inr ⟨hne', hne, hx⟩)
  have mineI : ∀ b, (I.foot b ∨ I'.foot b) ∨ w.heap.size ≤ b → F0 b ∨ w0.heap.size ≤ b := fun b hb => by
    rcases hb with (hI | hI) | hlt
    · exact m.mine k I hk b hI
    · exact m.mine k' I' hk' b hI
    · exact .inr (Nat.le_trans m.chg.size hlt)
  refine ⟨m.chg.trans' h (fun _ _ h => h) (fun b hb hI => (mineI b (.inl hI)).resolve_right (by omega)), fun i x hx => ?_, fun i x hx => ?_, fun i j x y hx hy hne b hb hb' => ?_⟩
  · rcases three i x hx with ⟨_, rfl⟩ | ⟨_, rfl⟩ | ⟨h1, h2, hx⟩
    · exact hJ'
    · exact hJ
    · exact old i x h1 h2 hx
  · rcases three i x hx with ⟨_, rfl⟩ | ⟨_, rfl⟩ | ⟨h1, h2, hx⟩
    · exact fun b hb => mineI b (hf' b hb)
    · exact fun b hb => mineI b (hf b hb)
    · exact m.mine i x hx
  · rcases three i x hx with ⟨hi, e1⟩ | ⟨hi, e1⟩ | ⟨h1, h2, hx2⟩
    · rcases three j y hy with ⟨hj, e2⟩ | ⟨hj, e2⟩ | ⟨g1, g2, hy2⟩
      · exact hne (hi.trans hj.symm)
      · exact hd b (e2 ▸ hb') (e1 ▸ hb)
      · exact apart j y g1 g2 hy2 b hb' (hf' b (e1 ▸ hb))
    · rcases three j y hy with ⟨hj, e2⟩ | ⟨hj, e2⟩ | ⟨g1, g2, hy2⟩
      · exact hd b (e1 ▸ hb) (e2 ▸ hb')
      · exact hne (hi.trans hj.symm)
      · exact apart j y g1 g2 hy2 b hb' (hf b (e1 ▸ hb))
    · rcases three j y hy with ⟨hj, e2⟩ | ⟨hj, e2⟩ | ⟨g1, g2, hy2⟩
      · exact apart i x h1 h2 hx2 b hb (hf' b (e2 ▸ hb'))
      · exact apart i x h1 h2 hx2 b hb (hf b (e2 ▸ hb'))
      · exact m.dis i j x y hx2 hy2 hne b hb hb'

/-- What a call did to the one item, or the two, that it was handed. -/
theorem Mem.lift1 (m : Mem w0 F0 w L) {I J : It} (k : Nat) (hk : nth L k = some I) (mm : Mem w I.foot w' [J]) : Mem w0 F0 w' (setN L k J) :=
  m.turn k hk mm.chg (mm.ok 0 J rfl) (mm.mine 0 J rfl)
theorem Mem.lift2 (m : Mem w0 F0 w L) {I I' J J' : It} (k k' : Nat) (hk : nth L k = some I) (hk' : nth L k' = some I') (hkk : k ≠ k') (mm : Mem w (fun b => I.foot b ∨ I'.foot b) w' [J, J']) : Mem w0 F0 w' (setN (setN L k J) k' J') :=
  m.turn2 k k' hk hk' hkk mm.chg (mm.ok 0 J rfl) (mm.ok 1 J' rfl) (mm.mine 0 J rfl) (mm.mine 1 J' rfl) (mm.dis 0 1 J J' rfl rfl (by decide))
theorem Mem.pick1 (m : Mem w0 F0 w L) {I : It} (k : Nat) (hk : nth L k = some I) : Mem w I.foot w [I] := Mem.one (m.ok k I hk)
theorem Mem.pick2 (m : Mem w0 F0 w L) {I I' : It} (k k' : Nat) (hk : nth L k = some I) (hk' : nth L k' = some I') (hkk : k ≠ k') : Mem w (fun b => I.foot b ∨ I'.foot b) w [I, I'] :=
  Mem.two (m.ok k I hk) (m.ok k' I' hk') (m.dis k k' I I' hk hk' hkk)
/-- A part of the items alone. -/
theorem Mem.sub (m : Mem w0 F0 w L) (ks : List Nat) (L' : List It) (hn : ks.Nodup) (h : L'.map some = ks.map (nth L)) : Mem w0 F0 w L' := by
  have get : ∀ i x, nth L' i = some x → ∃ k, ks[i]? = some k ∧ nth L k = some x := fun i x hx => by
    rw [nth_eq] at hx
    have h1 : (L'.map some)[i]? = some (some x) := by rw [List.getElem?_map, hx]; rfl
    rw [h, List.getElem?_map] at h1
    cases hk : ks[i]? with
    | none => rw [hk] at h1; cases h1
    | some k => rw [hk] at h1; injection h1 with h1; exact ⟨k, rfl, h1⟩
  refine ⟨m.chg, fun i x hx => ?_, fun i x hx => ?_, fun i j x y hx hy hne => ?_⟩
  · obtain ⟨k, _, hk⟩ := get i x hx; exact m.ok k x hk
  · obtain ⟨k, _, hk⟩ := get i x hx; exact m.mine k x hk
  · obtain ⟨k, hik, hk⟩ := get i x hx
    obtain ⟨k', hjk, hk'⟩ := get j y hy
    refine m.dis k k' x y hk hk' (fun e => hne ?_)
    subst e
    obtain ⟨hi, hi'⟩ := List.getElem?_eq_some_iff.1 hik
    obtain ⟨hj, hj'⟩ := List.getElem?_eq_some_iff.1 hjk
    have hp := List.pairwise_iff_getElem.1 hn
    rcases Nat.lt_trichotomy i j with hlt | heq | hgt
    · exact absurd (hi'.trans hj'.symm) (hp i j hi hj hlt)
    · exact heq
    · exact absurd (hj'.trans hi'.symm) (hp j i hj hi hgt)

def picks (L : List It) : List Nat → List It
  | [] => []
  | k :: ks => match nth L k with | some x => x :: picks L ks | none => picks L ks
theorem Mem.pk (m : Mem w0 F0 w L) (ks : List Nat) (hn : ks.Nodup) : Mem w0 F0 w (picks L ks) := by
  have key : ∀ ks : List Nat, ∃ js : List Nat, js.Sublist ks ∧ (picks L ks).map some = js.map (nth L) := by
    intro ks
    induction ks with
    | nil => exact ⟨[], List.Sublist.refl _, rfl⟩
    | cons k ks ih =>
      obtain ⟨js, h1, h2⟩ := ih
      unfold picks
      cases hk : nth L k with
      | none => exact ⟨js, h1.cons _, h2⟩
      | some x => exact ⟨k :: js, h1.cons_cons _, by simp only [List.map_cons, h2, hk]⟩
  obtain ⟨js, h1, h2⟩ := key ks
  exact m.sub js _ (List.Sublist.nodup h1 hn) h2

/-- What a block item says. -/
theorem Mem.b (m : Mem w0 F0 w L) (k : Nat) {b : Nat} {cs : List Value} {T : TypeId} (hk : nth L k = some (bk b cs T)) : w.heap[b]? = some (.cells cs.toArray T (0, 0)) := m.ok k _ hk
theorem Mem.o (m : Mem w0 F0 w L) (k : Nat) {T : TypeId} {sz : Nat} {a : Option Addr} {n c : Nat} {cs : List Value} (hk : nth L k = some (own T sz a n c cs)) : w.ownsRow 0 T sz (.slice a n c) n cs := m.ok k _ hk
end

/-! ### Cells that lie in a row somewhere -/
def Cells (w : World) (a : Option Addr) (cs : List Value) : Prop := ∀ j v, nth cs j = some v → ∃ ad, a = some ad ∧ w.cell? (ad.add j) = some v
theorem Addr.block_add (a : Addr) (n : Nat) : (a.add n).block = a.block := by unfold Addr.add; split <;> rfl
theorem Addr.add_add (a : Addr) (n m : Nat) : (a.add n).add m = a.add (n + m) := by
  unfold Addr.add
  by_cases hn : n = 0 <;> by_cases hm : m = 0 <;> simp_all [Nat.add_assoc]
theorem Cells.nil (w : World) (a : Option Addr) : Cells w a [] := fun _ _ h => by cases h
theorem Cells.keep {w w' : World} {F : Nat → Prop} {a : Option Addr} {cs : List Value} (h : Cells w a cs) (hc : Chg F w w') (hn : ∀ ad, a = some ad → ¬ F ad.block) : Cells w' a cs := fun j v hj => by
  obtain ⟨ad, rfl, hv⟩ := h j v hj
  exact ⟨ad, rfl, hc.cell hv (by rw [Addr.block_add]; exact hn ad rfl)⟩
theorem Cells.fr {w w' : World} {a : Option Addr} {cs : List Value} (h : Cells w a cs) (hc : Chg No w w') : Cells w' a cs := h.keep hc (fun _ _ h => h)
theorem Mem.ro {w0 w : World} {L : List It} (m : Mem w0 No w L) {a : Option Addr} {cs : List Value} (h : Cells w0 a cs) : Cells w a cs := h.fr m.chg
theorem Cells.drop {w : World} {a : Option Addr} {cs : List Value} (h : Cells w a cs) (k : Nat) : Cells w (a.map (·.add k)) (cs.drop k) := fun j v hj => by
  rw [nth_eq, List.getElem?_drop, ← nth_eq] at hj
  obtain ⟨ad, rfl, hv⟩ := h _ v hj
  exact ⟨ad.add k, rfl, by rw [Addr.add_add]; exact hv⟩
theorem Cells.take {w : World} {a : Option Addr} {cs : List Value} (h : Cells w a cs) (k : Nat) : Cells w a (cs.take k) := fun j v hj => by
  rw [nth_eq, List.getElem?_take] at hj
  split at hj
  · exact h j v (by rw [nth_eq]; exact hj)
  · cases hj
theorem Cells.append_left {w : World} {a : Option Addr} {cs ds : List Value} (h : Cells w a (cs ++ ds)) : Cells w a cs := by
  have := h.take cs.length
  rwa [List.take_left] at this
theorem own_cells {w : World} {T : TypeId} {sz : Nat} {a : Option Addr} {n c : Nat} {cs : List Value} (h : w.ownsRow 0 T sz (.slice a n c) n cs) : Cells w a cs := fun j v hj => by
  rw [nth_eq] at hj
  rcases h.2 with ⟨hv, hn⟩ | ⟨g, cap, cur, hv, _⟩
  · have h1 := h.1
    rw [hn, Nat.zero_mul] at h1
    have := List.eq_nil_of_length_eq_zero h1
    subst this
    cases hj
  · injection hv with h1 _ _
    subst h1
    exact ⟨_, rfl, h.cells (g := g) rfl j v hj⟩
theorem Mem.c {w0 w : World} {F0 : Nat → Prop} {L : List It} (m : Mem w0 F0 w L) (k : Nat) {T : TypeId} {sz : Nat} {a : Option Addr} {n c : Nat} {cs : List Value} (hk : nth L k = some (own T sz a n c cs)) : Cells w a cs := own_cells (m.o k hk)
theorem own_len {w : World} {T : TypeId} {sz : Nat} {a : Option Addr} {n c : Nat} {cs : List Value} (h : w.ownsRow 0 T sz (.slice a n c) n cs) : cs.length = n * sz := h.1
theorem own_le {w : World} {T : TypeId} {sz : Nat} {a : Option Addr} {n c : Nat} {cs : List Value} (h : w.ownsRow 0 T sz (.slice a n c) n cs) : n ≤ c := by
  rcases h.2 with ⟨hv, hn⟩ | ⟨g, cap, cur, hv, _, _, hle, _⟩
  · omega
  · injection hv with _ _ h3; omega
theorem own_cap {w : World} {T : TypeId} {sz : Nat} {a : Option Addr} {n c : Nat} {cs : List Value} (h : w.ownsRow 0 T sz (.slice a n c) n cs) : c ≤ maxLen := by
  rcases h.2 with ⟨hv, hn⟩ | ⟨g, cap, cur, hv, _, _, hle, hc, _⟩
  · injection hv with _ _ h3; subst h3; unfold maxLen; omega
  · injection hv with _ _ h3; omega

/-- A result in new memory. -/
def New (w w' : World) (J : It) : Prop := J.holds w' ∧ ∀ b, J.foot b → w.heap.size ≤ b
theorem Mem.new {w0 w w' : World} {F0 : Nat → Prop} {L : List It} (m : Mem w0 F0 w L) {J : It} (h : Chg No w w') (n : New w w' J) : Mem w0 F0 w' (L ++ [J]) := m.add h n.1 n.2
/-- Of a call that began with nothing of its own: what item k is, is new. -/
theorem Mem.isNew {w0 w : World} {L : List It} (m : Mem w0 No w L) (k : Nat) {J : It} (hk : nth L k = some J) : New w0 w J :=
  ⟨m.ok k J hk, fun b hb => (m.mine k J hk b hb).resolve_left (fun h => h)⟩

end K
end Go.Proofs.Ytgdbbaggkoillaa
