/- The walk's own small logic, seventh part: going over a text. -/
import Derived.Test.YtgdbbaggkoillaaKg
import Derived.Laws.RangeAny
namespace Go.Proofs.Ytgdbbaggkoillaa
namespace K

def si (b : Nat) (s : ByteArray) (pos : Nat) : It where
  foot := fun k => k = b
  holds := fun w => w.heap[b]? = some (.stringIter s pos)
  keep := fun w w' h hk => (hk b rfl).trans h
  live := fun w k h hk => by subst hk; exact (Array.getElem?_eq_some_iff.1 h).1

section
variable {P : Program} {e : Env} {w : World} {d : Option Nat} {ty : Nat} {pos : String} {af : Array Edge} {g : Option (Nat × Bool)} {K : Value → World → Prop}
variable {w0 : World} {F0 : Nat → Prop} {L : List It}
theorem r_ixs {t : Nat} {x y : Operand} {k : IntKind} {i : Int} {l : List UInt8} [h : TStr P t] (hx : ev e x = str l) (hy : ev e y = .int k i) (h0 : 0 ≤ i) (h1 : i < l.length) :
    (execOp (ev e) ⟨d, .index t x y, ty, pos, af, g⟩).run P w = .ok (.value (u8 (l.getD i.toNat 0))) w := by
  have h2 := run_index_string (P := P) (w := w) t ⟨l.toArray⟩ k i h.h
  have hs : (⟨l.toArray⟩ : ByteArray).size = l.length := by simp [ByteArray.size]
  rw [dif_pos ⟨h0, by rw [hs]; exact h1⟩] at h2
  simp only [execOp, hx, hy, str, Sem.run_bind, h2, Result.andThen_ok, Sem.run_pure]
  have h3 : i.toNat < l.length := by omega
  have : l.getD i.toNat 0 = l[i.toNat] := by simp [List.getD, h3]
  rw [this]
  rfl
theorem r_cat {t t' : Nat} {x y : Operand} {l m : List UInt8} (hx : ev e x = str l) (hy : ev e y = str m) (hl : l.length + m.length ≤ 9223372036854775807) : (execOp (ev e) ⟨d, .binOp .add t x y t', ty, pos, af, g⟩).run P w = .ok (.value (str (l ++ m))) w := by
  have : (⟨l.toArray⟩ : ByteArray) ++ ⟨m.toArray⟩ = ⟨(l ++ m).toArray⟩ := by
    apply ByteArray.ext
    simp
  have h2 : (l.length : Int) + m.length ≤ 9223372036854775807 := by omega
  simp [execOp, hx, hy, str, eqGuard, binOp, Op.stringOp, this, ByteArray.size, maxLen]
  omega
theorem o_rg {t : Nat} {x : Operand} {l : List UInt8} [h : TStr P t] (m : Mem w0 F0 w L) (hx : ev e x = str l) (hK : ∀ b w', Mem w0 F0 w' (L ++ [si b ⟨l.toArray⟩ 0]) → K (.pointer (some ⟨b, 0, none⟩)) w') : OwpE P ⟨d, .range t x, ty, pos, af, g⟩ e w K := by
  unfold OwpE
  simp only [execOp, hx, str, Instr.range, Sem.run_bind, run_underlying h.h, Result.andThen_ok, Sem.run_pure, run_newObj]
  exact hK _ _ (m.add (Chg.alloc No w _) (heap_alloc_new w _) (fun b hb => by cases hb; exact Nat.le_refl _))
theorem o_nx0 {x : Operand} {b p : Nat} {l : List UInt8} (m : Mem w0 F0 w L) (k : Nat) (hk : nth L k = some (si b ⟨l.toArray⟩ p)) (hx : ev e x = .pointer (some ⟨b, 0, none⟩)) (hp : l.length ≤ p) (hK : K (.tuple #[.bool false]) w) : OwpE P ⟨d, .next x true, ty, pos, af, g⟩ e w K := by
  have hb : w.heap[b]? = some (.stringIter ⟨l.toArray⟩ p) := m.ok k _ hk
  unfold OwpE
  simp only [execOp, hx, Instr.next, Sem.run_bind, getObj, Sem.run, hb, Result.andThen_ok]
  have : ¬ p < (⟨l.toArray⟩ : ByteArray).size := by simp [ByteArray.size]; omega
  rw [if_neg this]
  exact hK
theorem chg_setObj {b : Nat} {o : Obj} : Chg (fun k => k = b) w { w with heap := w.heap.setIfInBounds b o } :=
  ⟨rfl, rfl, rfl, by simp, fun k _ hk => by simp only; rw [Array.getElem?_setIfInBounds_ne (Ne.symm hk)]⟩
theorem o_nx1 {x : Operand} {b p : Nat} {l : List UInt8} (m : Mem w0 F0 w L) (k : Nat) (hk : nth L k = some (si b ⟨l.toArray⟩ p)) (hx : ev e x = .pointer (some ⟨b, 0, none⟩)) (hp : p < l.length)
    (hK : ∀ w', Mem w0 F0 w' (setN L k (si b ⟨l.toArray⟩ (p + (Utf8.decode ⟨l.toArray⟩ p).2))) → K (.tuple #[.bool true, .int .i64 p, .int .i32 (Utf8.decode ⟨l.toArray⟩ p).1]) w') : OwpE P ⟨d, .next x true, ty, pos, af, g⟩ e w K := by
  have hb : w.heap[b]? = some (.stringIter ⟨l.toArray⟩ p) := m.ok k _ hk
  have hlt : b < w.heap.size := (Array.getElem?_eq_some_iff.1 hb).1
  unfold OwpE
  simp only [execOp, hx, Instr.next, Sem.run_bind, getObj, setObj, Sem.run, hb, Result.andThen_ok]
  have : p < (⟨l.toArray⟩ : ByteArray).size := by simp [ByteArray.size]; omega
  rw [if_pos this]
  simp only [Sem.run_bind, Sem.run, hb, Result.andThen_ok]
  refine hK _ (m.turn k hk chg_setObj ?_ (fun c hc => .inl hc))
  show (w.heap.setIfInBounds b _)[b]? = _
  simp [hlt]
end
theorem size_l (l : List UInt8) : (⟨l.toArray⟩ : ByteArray).size = l.length := by simp [ByteArray.size]
theorem decode_low (l : List UInt8) (p : Nat) (h : p < l.length) (ha : l[p].toNat < 128) : Utf8.decode ⟨l.toArray⟩ p = (l[p].toNat, 1) :=
  decode_ascii ⟨l.toArray⟩ p (by rw [size_l]; exact h) ha
theorem decode_hi (l : List UInt8) (p : Nat) (h : p < l.length) (ha : 128 ≤ l[p].toNat) : 128 ≤ (Utf8.decode ⟨l.toArray⟩ p).1 :=
  (decode_high ⟨l.toArray⟩ p (by rw [size_l]; exact h) ha).1
end K
end Go.Proofs.Ytgdbbaggkoillaa
