/- The walk's own small logic, thirteenth part: maps whose keys are integers. -/
import Derived.Test.YtgdbbaggkoillaaKo
import Derived.Carry
namespace Go.Proofs.Ytgdbbaggkoillaa
namespace K
def mp (b : Nat) (es : List MapEntry) (clock : Nat) : It where
  foot := fun k => k = b
  holds := fun w => w.heap[b]? = some (.map es.toArray clock)
  keep := fun w w' h hk => (hk b rfl).trans h
  live := fun w k h hk => by subst hk; exact (Array.getElem?_eq_some_iff.1 h).1
section
variable {P : Program} {e : Env} {w : World} {d : Option Nat} {ty : Nat} {pos : String} {af : Array Edge} {g : Option (Nat × Bool)} {K : Value → World → Prop}
variable {w0 : World} {F0 : Nat → Prop} {L : List It}
theorem o_mkm {t : Nat} (m : Mem w0 F0 w L) (hK : ∀ b w', Mem w0 F0 w' (L ++ [mp b [] 0]) → K (.map (some b)) w') : OwpE P ⟨d, .makeMap t none, ty, pos, af, g⟩ e w K := by
  have hr : (Instr.makeMap t none).run P w = .ok (.map (some w.heap.size)) (w.alloc (.map #[] 0)) := rfl
  unfold OwpE
  simp only [execOp, Option.map_none, Sem.run_bind, hr, Result.andThen_ok, Sem.run_pure]
  exact hK _ _ (m.add (Chg.alloc No w _) (heap_alloc_new w _) (fun b hb => by cases hb; exact Nat.le_refl _))
theorem run_checkKey_int {b : Bool} {kt : Nat} {k : IntKind} {a : Int} (hk : P.underlying kt = some (.int k)) : (Instr.checkKey b 10000 kt (.int k a)).run P w = .ok () w := by
  show (Instr.checkKey b (9999 + 1) kt (.int k a)).run P w = .ok () w
  unfold Instr.checkKey
  simp only [Sem.run_bind, run_underlying hk, Result.andThen_ok, Sem.run_pure]
theorem run_findKey_int {kt : Nat} {k : IntKind} {a : Int} {es : List MapEntry} {r : Option (Nat × Value)} (hk : P.underlying kt = some (.int k)) (hf : Instr.findNow (.int k) (.int k a) es 0 = some r) : (Instr.findKey kt (.int k a) es).run P w = .ok r w := by
  simp [Instr.findKey, run_underlying hk, hf]
/-- A key that is not there yet. -/
theorem o_insi {t kt et b clock : Nat} {kk : IntKind} {a : Int} {x y z : Operand} {v : Value} {es : List MapEntry} (m : Mem w0 F0 w L) (k : Nat) (hk : nth L k = some (mp b es clock)) (ht : P.underlying t = some (.map kt et)) (hkt : P.underlying kt = some (.int kk))
    (hx : ev e x = .map (some b)) (hy : ev e y = .int kk a) (hz : ev e z = v) (hf : Instr.findNow (.int kk) (.int kk a) es 0 = some none)
    (hK : ∀ w', Mem w0 F0 w' (setN L k (mp b (es ++ [⟨.int kk a, v, clock⟩]) (clock + 1))) → K undef w') : OwpE P ⟨d, .insert t x y z, ty, pos, af, g⟩ e w K := by
  have hb : w.heap[b]? = some (.map es.toArray clock) := m.ok k _ hk
  have hlt : b < w.heap.size := (Array.getElem?_eq_some_iff.1 hb).1
  have hr : (Instr.mapUpdate t (.map (some b)) (.int kk a) v).run P w = .ok () { w with heap := w.heap.setIfInBounds b (.map (es ++ [({ key := .int kk a, val := v, born := clock } : MapEntry)]).toArray (clock + 1)) } := by
    have h1 := run_checkKey_int (P := P) (w := w) (b := false) (a := a) hkt
    have h2 := run_findKey_int (P := P) (w := w) hkt hf
    simp only [Instr.mapUpdate, Sem.run_bind, run_underlying ht, Result.andThen_ok, getObj, Sem.run, hb, h1, h2, setObj]
    simp
  unfold OwpE
  simp only [execOp, hx, hy, hz, Sem.run_bind, hr, Result.andThen_ok, Sem.run_pure]
  refine hK _ (m.turn k hk ⟨rfl, rfl, rfl, by simp, fun j _ hj => by simp only; rw [Array.getElem?_setIfInBounds_ne (Ne.symm hj)]⟩ ?_ (fun c hc => .inl hc))
  show (w.heap.setIfInBounds b _)[b]? = _
  simp [hlt]
def lkV (r : Option (Nat × Value)) (zv : Value) : Value := match r with | some q => q.2 | none => zv
theorem r_lki {t kt et b clock : Nat} {kk : IntKind} {a : Int} {x y : Operand} {es : List MapEntry} {r : Option (Nat × Value)} {v zv : Value} (m : Mem w0 F0 w L) (k : Nat) (hk : nth L k = some (mp b es clock)) (ht : P.underlying t = some (.map kt et)) (hkt : P.underlying kt = some (.int kk))
    (hz : (P.info? et).map (·.zero) = some (some zv)) (hx : ev e x = .map (some b)) (hy : ev e y = .int kk a) (hf : Instr.findNow (.int kk) (.int kk a) es 0 = some r) (hv : lkV r zv = v) :
    (execOp (ev e) ⟨d, .lookup t x y false, ty, pos, af, g⟩).run P w = .ok (.value v) w := by
  have hb : w.heap[b]? = some (.map es.toArray clock) := m.ok k _ hk
  have h1 := run_checkKey_int (P := P) (w := w) (b := es.toArray.isEmpty) (a := a) hkt
  have h2 := run_findKey_int (P := P) (w := w) hkt hf
  have h3 : (zeroValue et).run P w = .ok zv w := by
    cases hi : P.info? et with
    | none => rw [hi] at hz; cases hz
    | some i =>
      rw [hi] at hz
      simp only [Option.map_some, Option.some.injEq] at hz
      simp [zeroValue, typeInfo, hi, hz]
  have hr : (Instr.lookup t (.map (some b)) (.int kk a) false).run P w = .ok v w := by
    subst hv
    simp only [Instr.lookup, Sem.run_bind, run_underlying ht, Result.andThen_ok, getObj, Sem.run, hb, h1, h2, Sem.run_pure]
    cases r with
    | none => simp only [Sem.run_bind, h3, Result.andThen_ok, Sem.run_pure]; rfl
    | some q => simp only [Sem.run_bind, Result.andThen_ok, Sem.run_pure]; rfl
  simp only [execOp, hx, hy, Sem.run_bind, hr, Result.andThen_ok, Sem.run_pure]
end
end K
end Go.Proofs.Ytgdbbaggkoillaa
