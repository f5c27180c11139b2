/- The walk's own small logic, eighth part: rows of structs, arrays as slices, zeros appended, more comparisons. -/
import Derived.Test.YtgdbbaggkoillaaKg
import Derived.Lib.AppendZeros
import Derived.Lib.SliceRun
import Derived.DeepKeys
namespace Go.Proofs.Ytgdbbaggkoillaa
namespace K

section
variable {P : Program} {e : Env} {w : World} {d : Option Nat} {ty : Nat} {pos : String} {af : Array Edge} {g : Option (Nat × Bool)} {K : Value → World → Prop}
variable {w0 : World} {F0 : Nat → Prop} {L : List It}

/-- A struct loaded from a row, its cells known. -/
theorem r_ldce {t j n : Nat} {x : Operand} {a : Option Addr} {cs ds : List Value} [h : Ag P t n] (hx : ev e x = .pointer (a.map (·.add j))) (hc : Cells w a cs) (hd : seg cs j n = ds) (hl : j + n ≤ cs.length) (h0 : 0 < n) :
    (execOp (ev e) ⟨d, .load t x, ty, pos, af, g⟩).run P w = .ok (.value (.agg ds.toArray)) w := by subst hd; exact r_ldca hx hc hl h0
/-- A row's load of a field of one cell, its cell known. -/
theorem r_ldcv {t j : Nat} {x : Operand} {a : Option Addr} {cs : List Value} {v : Value} [h : Sc P t] (hx : ev e x = .pointer (a.map (·.add j))) (hc : Cells w a cs) (hv : nth cs j = some v) :
    (execOp (ev e) ⟨d, .load t x, ty, pos, af, g⟩).run P w = .ok (.value v) w := r_ldc hx hc hv
/-- A whole array as a slice. -/
theorem r_sarr {t el n b : Nat} {x : Operand} [h : TArr P t n el] {sz by_ : Nat} {z : List Value} [he : El P el sz by_ z] (hx : ev e x = .pointer (some ⟨b, 0, none⟩)) :
    (execOp (ev e) ⟨d, .slice t x none none none, ty, pos, af, g⟩).run P w = .ok (.value (.slice (some ⟨b, 0, none⟩) n n)) w := by
  obtain ⟨i, zv, hi, hsz, _⟩ := he.h
  simp only [execOp, hx, Option.map_none, Instr.sliceAt, Sem.run_bind, run_underlying h.h, Result.andThen_ok, Instr.sureAddr, Instr.sliceBounds, Sem.run_pure, sizeOf, typeInfo, run_program, hi, Nat.zero_mul, Nat.sub_zero]
  have : (⟨b, 0, none⟩ : Addr).add 0 = ⟨b, 0, none⟩ := rfl
  rw [this]
  simp
/-- A slice as an array's address. -/
theorem r_s2a {t el n m c : Nat} {x : Operand} {a : Option Addr} [h : TArr P t n el] (hx : ev e x = .slice a m c) (hm : n ≤ m) :
    (execOp (ev e) ⟨d, .sliceToArrayPointer t x, ty, pos, af, g⟩).run P w = .ok (.value (.pointer (a.map (·.add 0)))) w := by
  have : ¬ (m < n) := by omega
  simp [execOp, hx, Instr.arrayAt, run_underlying h.h, this, opt_add0]
theorem r_cap {x : Operand} {t el : Nat} {a : Option Addr} {n c : Nat} [h : TSl P t el] (hx : ev e x = .slice a n c) : (execOp (ev e) ⟨d, .call ⟨.builtin .cap, #[x], #[t]⟩, ty, pos, af, g⟩).run P w = .ok (.value (.int .i64 c)) w := by
  have e1 : (#[x] : Array Operand).map (ev e) = #[.slice a n c] := by simp [hx]
  rw [x_builtin, e1]
  unfold builtin
  simp [Builtin.cap_, run_underlying h.h, goInt]
theorem r_snil {t t' el n c : Nat} {x y : Operand} {a : Option Addr} [h : TSl P t el] (hx : ev e x = .slice a n c) (hy : ev e y = .slice none 0 0) : (execOp (ev e) ⟨d, .binOp .eql t x y t', ty, pos, af, g⟩).run P w = .ok (.value (.bool a.isNone)) w := by
  have h1 := Lib.run_eql_slice_nil (P := P) w t el a n c 0 0 h.h
  simp only [execOp, hx, hy, eqGuard, Sem.run_bind]
  simp [h1]
/-- Zeros, behind nothing. -/
theorem o_apz {t t' el sz by_ n : Nat} {x y : Operand} {z : List Value} {kn : IntKind} [ht : TSl P t el] [hi' : TInt P t' kn] [he : El P el sz by_ z] (mm : Mem w0 F0 w L) (hx : ev e x = .slice none 0 0) (hy : ev e y = .int .i64 n) (h0 : 0 < n) (hm : n ≤ maxLen) (hb : n * by_ ≤ 140737488355328)
    (hK : ∀ a c w', Mem w0 F0 w' (L ++ [own el sz a 0 c []]) → n ≤ c → K (.slice a n c) w') :
    OwpE P ⟨d, .call ⟨.builtin .append, #[x, y], #[t, t']⟩, ty, pos, af, g⟩ e w K := by
  obtain ⟨i, zv, hi, hsz, hby, hz, hzc, hzl, hs0⟩ := he.h
  subst hsz; subst hby
  have h63 : (n : Int) ≤ 9223372036854775807 := by simp only [maxLen] at hm; omega
  have hr := Lib.run_append_nil_zeros (P := P) w t t' ty el i zv .i64 kn ht.h hi'.h hi hz n h0 hs0 h63 (by omega)
  have e1 : (#[x, y] : Array Operand).map (ev e) = #[.slice none 0 0, .int .i64 n] := by simp [hx, hy]
  have hge := grownCap_ge w n 0 el
  have hcm := grownCap_le_maxLen w n 0 el hm
  have hzs : zv.cells.size = i.size := by rw [hzc]; simpa using hzl
  unfold OwpE
  rw [x_builtin, e1]
  unfold builtin
  simp only [Sem.run_bind, hr, Result.andThen_ok, Sem.run_pure]
  refine hK _ _ _ (mm.add ((Chg.drawn No w _).trans (Chg.alloc No w.drew _)) ⟨by simp, .inr ⟨w.heap.size, _, _, rfl, Nat.zero_le _, heap_alloc_new w.drew _, Nat.zero_le _, hcm, ?_, by simp⟩⟩ (fun b hb => ?_)) hge
  · simp only [Array.size_append, size_zeroCells, hzs, ← Nat.add_mul]
    congr 1
    omega
  · simp only [own, Option.map_some, Option.some.injEq] at hb
    omega
end
theorem Mem.cst1 {w0 w : World} {F0 : Nat → Prop} {T : TypeId} {sz n n' c : Nat} {a : Option Addr} {cs cs' : List Value} (h : Mem w0 F0 w [own T sz a n c cs]) (hn : n = n') (hc : cs = cs') : Mem w0 F0 w [own T sz a n' c cs'] := by subst hn; subst hc; exact h
/-! arrays of bytes compared -/
section
variable {P : Program} {e : Env} {w : World} {d : Option Nat} {ty : Nat} {pos : String} {af : Array Edge} {g : Option (Nat × Bool)}
theorem run_eqa {t m D : Nat} {cs ds : List Value} {la lb : List Lit} {p : Prop} [Decidable p] (hk : P.keyTypeAt m t = true) (hm : m ≤ 10000)
    (fa : (Value.agg cs.toArray).formed P t = true) (fb : (Value.agg ds.toArray).formed P t = true) (ka : P.keyLits D t cs = some la) (kb : P.keyLits D t ds = some lb) (hp : (la = lb) ↔ p) :
    (Op.equalIn 10000 t (.agg cs.toArray) (.agg ds.toArray)).run P w = .ok (decide p) w := by
  obtain ⟨r, hr, hiff⟩ := run_equalIn_deep (10000 - m) m t hk w D D _ _ la lb fa fb ka kb
  rw [show 10000 - m + m = 10000 from by omega] at hr
  have : r = decide p := by
    cases r with
    | true => exact (decide_eq_true (hp.1 (hiff.1 rfl))).symm
    | false => exact (decide_eq_false (fun hq => by have := hiff.2 (hp.2 hq); cases this)).symm
  rw [hr, this]
theorem r_eqa {t t' : Nat} {cs ds : List Value} {x y : Operand} {b : Bool} (hg : P.eqGuardType P.depth t = false) (he : ∀ w, (Op.equalIn 10000 t (.agg cs.toArray) (.agg ds.toArray)).run P w = .ok b w) (hx : ev e x = .agg cs.toArray) (hy : ev e y = .agg ds.toArray) :
    (execOp (ev e) ⟨d, .binOp .eql t x y t', ty, pos, af, g⟩).run P w = .ok (.value (.bool b)) w := by
  have h1 := run_eqGuard_agg (P := P) w .eql t x y cs.toArray ds.toArray hg
  have h2 := run_eql_struct (P := P) w t cs.toArray ds.toArray
  rw [he w] at h2
  simp only [execOp, hx, hy, Sem.run_bind, h1, Result.andThen_ok, h2, Sem.run_pure]
theorem r_nea {t t' : Nat} {cs ds : List Value} {x y : Operand} {b : Bool} (hg : P.eqGuardType P.depth t = false) (he : ∀ w, (Op.equalIn 10000 t (.agg cs.toArray) (.agg ds.toArray)).run P w = .ok b w) (hx : ev e x = .agg cs.toArray) (hy : ev e y = .agg ds.toArray) :
    (execOp (ev e) ⟨d, .binOp .neq t x y t', ty, pos, af, g⟩).run P w = .ok (.value (.bool (!b))) w := by
  have h1 := run_eqGuard_agg (P := P) w .neq t x y cs.toArray ds.toArray hg
  have h2 := run_neq_struct (P := P) w t cs.toArray ds.toArray
  rw [he w] at h2
  simp only [execOp, hx, hy, Sem.run_bind, h1, Result.andThen_ok, h2, Sem.run_pure]
end
end K
end Go.Proofs.Ytgdbbaggkoillaa
