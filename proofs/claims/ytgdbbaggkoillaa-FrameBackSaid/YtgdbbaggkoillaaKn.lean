/- The walk's own small logic, ninth part: slices built of structs. -/
import Derived.Test.YtgdbbaggkoillaaKm
namespace Go.Proofs.Ytgdbbaggkoillaa
namespace K
/-! slices built of structs -/
def zrep (z : List Value) : Nat → List Value
  | 0 => []
  | n + 1 => z ++ zrep z n
theorem zrep_length (z : List Value) : ∀ n, (zrep z n).length = n * z.length
  | 0 => by simp [zrep]
  | n + 1 => by rw [zrep, List.length_append, zrep_length z n, Nat.add_mul]; omega
theorem zrep_get (z : List Value) : ∀ n i, i < n * z.length → (zrep z n)[i]? = z[i % z.length]?
  | 0, i, h => by simp at h
  | n + 1, i, h => by
    rw [zrep]
    by_cases hi : i < z.length
    · rw [List.getElem?_append_left hi, Nat.mod_eq_of_lt hi]
    · rw [List.getElem?_append_right (by omega), zrep_get z n (i - z.length) (by rw [Nat.add_mul] at h; omega)]
      congr 1
      rw [← Nat.mod_eq_sub_mod (by omega)]
theorem zrep_eq (z : List Value) (n : Nat) : (Array.range (n * z.length)).map (fun i => z.toArray[i % z.toArray.size]!) = (zrep z n).toArray := by
  apply Array.ext'
  apply List.ext_getElem?
  intro i
  by_cases hi : i < n * z.length
  · have hz : 0 < z.length := by
      rcases Nat.eq_zero_or_pos z.length with h0 | h0
      · rw [h0] at hi; simp at hi
      · exact h0
    have hm : i % z.length < z.length := Nat.mod_lt _ hz
    have h1 := zrep_get z n i hi
    simp [Array.toList_map, Array.toList_range, hi, h1, hm]
  · have h1 : (zrep z n).length ≤ i := by rw [zrep_length]; omega
    simp [Array.toList_map, Array.toList_range, hi, List.getElem?_eq_none h1]
section
variable {P : Program} {e : Env} {w : World} {d : Option Nat} {ty : Nat} {pos : String} {af : Array Edge} {g : Option (Nat × Bool)} {K : Value → World → Prop}
variable {w0 : World} {F0 : Nat → Prop} {L : List It}
theorem o_bg {t el sz by_ n : Nat} {parts : Array (Nat × Operand)} {vs : List (Nat × Value)} {cs z : List Value} [ht : TSl P t el] [he : El P el sz by_ z] (m : Mem w0 F0 w L) (hv' : BdV e parts.toList vs) (hf : fillL (fun i => some (i * sz, sz)) (zrep z n) vs = some cs) (hl : cs.length = n * sz) (hn : 0 < n) (hb : n * sz ≤ 16777216) (hm : n ≤ maxLen)
    (hK : ∀ a c w', Mem w0 F0 w' (L ++ [own el sz a n c cs]) → K (.slice a n c) w') : OwpE P ⟨d, .buildSlice t n parts, ty, pos, af, g⟩ e w K := by
  obtain ⟨i, zv, hi, hsz, _, hz, hzc, hzl, h0⟩ := he.h
  have hv := hv'.eq
  have h1 : (parts.map fun (i, x) => (i, ev e x)).toList = vs := by rw [← hv]; simp
  have h2 := fill_eq (pl := fun i => some (i * sz, sz)) vs (zrep z n) cs hf
  have h3 : (Array.range (n * sz)).map (fun i => z.toArray[i % z.toArray.size]!) = (zrep z n).toArray := by rw [← hzl]; exact zrep_eq z n
  have h4 : ¬ (n * sz > 2 ^ 24) := by omega
  have h5 : ¬ (n * sz = 0) := by have := Nat.mul_pos hn h0; omega
  unfold OwpE
  simp only [execOp, Instr.buildSlice, Sem.run_bind, run_underlying ht.h, Result.andThen_ok, sizeOf, typeInfo, run_program, hi, Sem.run_pure, hsz, h4, if_false, h5, zeroValue, hz, hzc, h3, h1, h2, newRow, run_newObj]
  exact hK _ _ _ (own_made (n := n) (cs := cs) m hl hm)
end
/-- What holds behind a piece of code that ends a block. -/
theorem c_mid1 {P : Program} {N : Nat} {Rt : Env → World → Prop} {Q : Post} {e : Env} {w : World} {x : Code} {id : Nat} {K : Env → World → Prop} (M : Env → World → Prop) (h : wpE P N Rt x (thn M (blk id (thn K Q))) e w) (k : ∀ e w, M e w → K e w) : wpE P N Rt x (blk id (thn K Q)) e w :=
  c_mono h fun x e w hx => by cases x <;> first | exact k e w hx | exact hx
theorem c_mid2 {P : Program} {N : Nat} {Rt : Env → World → Prop} {Q : Post} {e : Env} {w : World} {x : Code} {id id' : Nat} {K : Env → World → Prop} (M : Env → World → Prop) (h : wpE P N Rt x (thn M (blk id (blk id' (thn K Q)))) e w) (k : ∀ e w, M e w → K e w) : wpE P N Rt x (blk id (blk id' (thn K Q))) e w :=
  c_mono h fun x e w hx => by cases x <;> first | exact k e w hx | exact hx
end K
end Go.Proofs.Ytgdbbaggkoillaa
