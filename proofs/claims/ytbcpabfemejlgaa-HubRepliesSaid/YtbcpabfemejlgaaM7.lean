/- The walk's own small logic: a map of one text key at most; a row copied over. -/
import Derived.Test.YtbcpabfemejlgaaM6
import Derived.Laws.CopyRow
import Derived.Laws.MakeOwn
import Derived.Test.YtbcpabfemejlgaaM4
import Derived.Test.YtbcpabfemejlgaaM3
namespace Go.Proofs.Ytbcpabfemejlgaa
namespace K
def oneE (key : List UInt8) (i : Nat) : Option Int → List MapEntry
  | none => []
  | some n => [⟨str key, .int .i64 n, i⟩]
/-- A map in which this key stands, or none. -/
def keyI (key : List UInt8) (b : Nat) (o : Option Int) : It where
  foot := fun k => k = b
  holds := fun w => ∃ i clock, w.heap[b]? = some (.map (oneE key i o).toArray clock)
  keep := fun w w' h hk => by
    obtain ⟨i, c, h⟩ := h
    exact ⟨i, c, (hk b rfl).trans h⟩
  live := fun w k h hk => by
    obtain ⟨i, c, h⟩ := h
    subst hk
    exact (Array.getElem?_eq_some_iff.1 h).1
section
variable {P : Program} {e : Env} {w : World} {d : Option Nat} {ty : Nat} {pos : String} {af : Array Edge} {g : Option (Nat × Bool)} {K : Value → World → Prop}
variable {w0 : World} {F0 : Nat → Prop} {L : List It} {key : List UInt8} {b k : Nat} {o : Option Int}
theorem beq_ba (a : ByteArray) : (a == a) = true := by
  rcases a with ⟨d⟩
  show (d == d) = true
  simp
theorem run_checkKey_str {q : Bool} {kt : Nat} {l : List UInt8} (hk : P.underlying kt = some .string) : (Instr.checkKey q 10000 kt (str l)).run P w = .ok () w := by
  show (Instr.checkKey q (9999 + 1) kt (str l)).run P w = .ok () w
  unfold Instr.checkKey str
  simp only [Sem.run_bind, run_underlying hk, Result.andThen_ok, Sem.run_pure]
theorem findNow_one (i : Nat) : Instr.findNow .string (str key) (oneE key i o) 0 = some (o.map fun n => (0, .int .i64 n)) := by
  cases o with
  | none => rfl
  | some n =>
    show (match Instr.sameNow .string (str key) (str key) with | some true => some (some (0, Value.int .i64 n)) | some false => Instr.findNow .string (str key) [] 1 | none => none) = _
    have : Instr.sameNow .string (str key) (str key) = some true := by simp [Instr.sameNow, str, beq_ba]
    rw [this]; rfl
theorem run_findKey_one {kt i : Nat} (hk : P.underlying kt = some .string) : (Instr.findKey kt (str key) (oneE key i o)).run P w = .ok (o.map fun n => (0, .int .i64 n)) w := by
  simp [Instr.findKey, run_underlying hk, findNow_one]
theorem o_mkk {t : Nat} (m : Mem w0 F0 w L) (key : List UInt8) (hK : ∀ b w', Mem w0 F0 w' (L ++ [keyI key b none]) → K (.map (some b)) w') : OwpE P ⟨d, .makeMap t none, ty, pos, af, g⟩ e w K := by
  have hr : (Instr.makeMap t none).run P w = .ok (.map (some w.heap.size)) (w.alloc (.map #[] 0)) := rfl
  unfold OwpE
  simp only [execOp, Option.map_none, Sem.run_bind, hr, Result.andThen_ok, Sem.run_pure]
  exact hK _ _ (m.add (Chg.alloc No w _) ⟨0, 0, heap_alloc_new w _⟩ (fun b hb => by cases hb; exact Nat.le_refl _))
theorem r_lkk {t kt et : Nat} {x y : Operand} (m : Mem w0 F0 w L) (k : Nat) (hk : nth L k = some (keyI key b o)) (ht : P.underlying t = some (.map kt et)) (hkt : P.underlying kt = some .string)
    (hz : (P.info? et).map (·.zero) = some (some (.int .i64 0))) (hx : ev e x = .map (some b)) (hy : ev e y = str key) :
    (execOp (ev e) ⟨d, .lookup t x y true, ty, pos, af, g⟩).run P w = .ok (.value (.tuple #[.int .i64 (o.getD 0), .bool o.isSome])) w := by
  obtain ⟨i, c, hb⟩ := m.ok k _ hk
  have h1 := run_checkKey_str (P := P) (w := w) (q := (oneE key i o).toArray.isEmpty) (l := key) hkt
  have h2 := run_findKey_one (P := P) (w := w) (key := key) (o := o) (i := i) hkt
  have h3 : (zeroValue et).run P w = .ok (.int .i64 0) w := by
    cases hi : P.info? et with
    | none => rw [hi] at hz; cases hz
    | some i =>
      rw [hi] at hz
      simp only [Option.map_some, Option.some.injEq] at hz
      simp [zeroValue, typeInfo, hi, hz]
  have hr : (Instr.lookup t (.map (some b)) (str key) true).run P w = .ok (.tuple #[.int .i64 (o.getD 0), .bool o.isSome]) w := by
    simp only [Instr.lookup, Sem.run_bind, run_underlying ht, Result.andThen_ok, getObj, Sem.run, hb, h1, h2, Sem.run_pure]
    cases o with
    | none => simp only [Option.map_none, Sem.run_bind, h3, Result.andThen_ok, Sem.run_pure]; rfl
    | some q => simp only [Option.map_some, Sem.run_bind, Result.andThen_ok, Sem.run_pure]; rfl
  simp only [execOp, hx, hy, Sem.run_bind, hr, Result.andThen_ok, Sem.run_pure]
theorem chg_obj {b : Nat} {ob : Obj} : Chg (fun k => k = b) w { w with heap := w.heap.setIfInBounds b ob } :=
  ⟨rfl, rfl, rfl, by simp, fun j _ hj => by simp only; rw [Array.getElem?_setIfInBounds_ne (Ne.symm hj)]⟩
theorem o_upk {t kt et : Nat} {x y z : Operand} {n : Int} (m : Mem w0 F0 w L) (k : Nat) (hk : nth L k = some (keyI key b o)) (ht : P.underlying t = some (.map kt et)) (hkt : P.underlying kt = some .string)
    (hx : ev e x = .map (some b)) (hy : ev e y = str key) (hz : ev e z = .int .i64 n) (hK : ∀ w', Mem w0 F0 w' (setN L k (keyI key b (some n))) → K undef w') : OwpE P ⟨d, .mapUpdate t x y z, ty, pos, af, g⟩ e w K := by
  obtain ⟨i, c, hb⟩ := m.ok k _ hk
  have hlt : b < w.heap.size := (Array.getElem?_eq_some_iff.1 hb).1
  have hr : ∃ i' c', (Instr.mapUpdate t (.map (some b)) (str key) (.int .i64 n)).run P w = .ok () { w with heap := w.heap.setIfInBounds b (.map (oneE key i' (some n)).toArray c') } := by
    have h1 := run_checkKey_str (P := P) (w := w) (q := false) (l := key) hkt
    have h2 := run_findKey_one (P := P) (w := w) (key := key) (o := o) (i := i) hkt
    cases o with
    | none =>
      refine ⟨c, c + 1, ?_⟩
      simp only [Instr.mapUpdate, Sem.run_bind, run_underlying ht, Result.andThen_ok, getObj, Sem.run, hb, h1, h2, setObj, Option.map_none]
      simp [oneE]
    | some q =>
      refine ⟨i, c, ?_⟩
      have h3 : Instr.sameBits 10000 (str key) (str key) = true := by
        show Instr.sameBits (9999 + 1) (str key) (str key) = true
        simp [Instr.sameBits, str, beq_ba]
      simp only [Instr.mapUpdate, Sem.run_bind, run_underlying ht, Result.andThen_ok, getObj, Sem.run, hb, h1, h2, setObj, Option.map_some]
      simp [oneE, Instr.keyThatStays, h3, hb]
  obtain ⟨i', c', hr⟩ := hr
  unfold OwpE
  simp only [execOp, hx, hy, hz, Sem.run_bind, hr, Result.andThen_ok, Sem.run_pure]
  refine hK _ (m.turn k hk chg_obj ⟨i', c', ?_⟩ (fun c hc => .inl hc))
  show (w.heap.setIfInBounds b _)[b]? = _
  simp [hlt]
theorem o_clk {t kt et : Nat} {x : Operand} (m : Mem w0 F0 w L) (k : Nat) (hk : nth L k = some (keyI key b o)) (ht : P.underlying t = some (.map kt et))
    (hx : ev e x = .map (some b)) (hK : ∀ w', Mem w0 F0 w' (setN L k (keyI key b none)) → K (.tuple #[]) w') : OwpE P ⟨d, .call ⟨.builtin .clear, #[x], #[t]⟩, ty, pos, af, g⟩ e w K := by
  obtain ⟨i, c, hb⟩ := m.ok k _ hk
  have hlt : b < w.heap.size := (Array.getElem?_eq_some_iff.1 hb).1
  have hr : (Builtin.clear_ #[t] ty #[.map (some b)]).run P w = .ok (.tuple #[]) { w with heap := w.heap.setIfInBounds b (.map #[] c) } := by
    simp only [Builtin.clear_, Sem.run_bind]
    simp [run_underlying ht, getObj, Sem.run, hb, setObj]
  have e1 : (#[x] : Array Operand).map (ev e) = #[.map (some b)] := by simp [hx]
  unfold OwpE
  rw [x_builtin, e1]
  unfold builtin
  simp only [Sem.run_bind, hr, Result.andThen_ok, Sem.run_pure]
  refine hK _ (m.turn k hk chg_obj ⟨0, c, ?_⟩ (fun c hc => .inl hc))
  show (w.heap.setIfInBounds b _)[b]? = _
  simp [hlt, oneE]
theorem splice_takeN (cs vs : List Value) (o N : Nat) (h : o + vs.length ≤ N) (h2 : o + vs.length ≤ cs.length) : (splice cs o vs).take N = splice (cs.take N) o vs := by
  unfold splice
  have h3 : (cs.take o ++ vs).length = o + vs.length := by rw [List.length_append, List.length_take]; omega
  rw [List.take_append, List.take_of_length_le (by omega : (cs.take o ++ vs).length ≤ N), h3, List.drop_take, List.take_take, Nat.min_eq_left (by omega)]
theorem setN_nth {α : Type} : ∀ (l : List α) (k : Nat) (x : α), nth l k = some x → setN l k x = l
  | [], _, _, h => by cases h
  | y :: l, 0, x, h => by injection h with h; subst h; rfl
  | y :: l, k + 1, x, h => by show y :: setN l k x = _; rw [setN_nth l k x h]
/-- Over a row of one's own, from its place q on, what stands elsewhere. -/
theorem o_cpy {t t' el sz by_ n c m q dn dc sc : Nat} {x y : Operand} {a sa : Option Addr} {cs vs z : List Value} [ht : TSl P t el] [he : El P el sz by_ z] (mm : Mem w0 F0 w L) (k : Nat) (hk : nth L k = some (own el sz a n c cs))
    (hx : ev e x = .slice (a.map (·.add (q * sz))) dn dc) (hy : ev e y = .slice sa m sc) (H : Cells w sa vs) (hv : vs.length = m * sz) (h1 : ones vs = true) (hm : m ≤ dn) (hq : q + m ≤ n)
    (hK : ∀ w', Mem w0 F0 w' (setN L k (own el sz a n c (splice cs (q * sz) vs))) → K (.int .i64 m) w') : OwpE P ⟨d, .call ⟨.builtin .copy, #[x, y], #[t, t']⟩, ty, pos, af, g⟩ e w K := by
  obtain ⟨i, zv, hi, hsz, hby, hz, hzc, hzl, h0⟩ := he.h
  have ho := mm.o k hk
  have e1 : (#[x, y] : Array Operand).map (ev e) = #[.slice (a.map (·.add (q * sz))) dn dc, .slice sa m sc] := by simp [hx, hy]
  have hmin : Nat.min m dn = m := Nat.min_eq_left hm
  have hsl : ∀ {v' : Value} {w' : World}, (Builtin.copy_ #[t, t'] ty #[.slice (a.map (·.add (q * sz))) dn dc, .slice sa m sc]).run P w = .ok v' w' → K v' w' → OwpE P ⟨d, .call ⟨.builtin .copy, #[x, y], #[t, t']⟩, ty, pos, af, g⟩ e w K := fun hr hk => by
    unfold OwpE
    rw [x_builtin, e1]
    unfold builtin
    simp only [Sem.run_bind, hr, Result.andThen_ok, Sem.run_pure]
    exact hk
  by_cases hm0 : m = 0
  · subst hm0
    have hvs : vs = [] := List.eq_nil_of_length_eq_zero (by rw [hv]; simp)
    subst hvs
    have hl : ∀ (x : Addr), (loadCells x 0).run P w = .ok #[] w := fun x => by simpa using run_loadCells_list (P := P) w x [] (by simp)
    refine hsl (v' := .int .i64 0) (w' := w) ?_ ?_
    · cases a <;> cases sa <;> simp [Builtin.copy_, run_underlying ht.h, Builtin.lenOf, Builtin.firstCells, sizeOf, typeInfo, hi, storeCells, hl, goInt]
    · refine hK w ?_
      have e2 : splice cs (q * sz) [] = cs := by unfold splice; simp
      rw [e2]
      have : setN L k (own el sz a n c cs) = L := by
        exact setN_nth L k _ hk
      rw [this]; exact mm
  · rcases ho.2 with ⟨hv', hn⟩ | ⟨gb, cap, cur, hv', hbg, hg, hnc, hcm, hcs, htake⟩
    · omega
    · injection hv' with e2 e3 e4
      subst e2; subst e4
      obtain ⟨ad, rfl, _⟩ : ∃ ad, sa = some ad ∧ True := by
        cases vs with
        | nil => exfalso; have := Nat.mul_pos (show 0 < m by omega) h0; simp only [List.length_nil] at hv; omega
        | cons v vs => obtain ⟨ad, h, _⟩ := H 0 v rfl; exact ⟨ad, h, trivial⟩
      have hadd : (⟨gb, 0, none⟩ : Addr).add (q * sz) = ⟨gb, q * sz, none⟩ := by unfold Addr.add; split <;> simp_all
      have hsz2 : n * sz ≤ cur.size := by rw [hcs]; exact Nat.mul_le_mul_right _ hnc
      have hqm : q * sz + m * sz ≤ n * sz := by rw [← Nat.add_mul]; exact Nat.mul_le_mul_right _ hq
      have hsrc : ∀ j v, vs[j]? = some v → w.cell? (ad.add j) = some v := fun j v hj => by
        obtain ⟨ad', h, hv⟩ := H j v (by rw [nth_eq]; exact hj)
        injection h with h; subst h; exact hv
      have hl := run_loadCells_list (P := P) w ad vs hsrc
      have hst := run_storeCells_at P gb (q * sz) el vs 0 cur w hg (by rw [hv]; omega) (ones_spec h1)
      have hr : (Builtin.copy_ #[t, t'] ty #[.slice ((some ⟨gb, 0, none⟩ : Option Addr).map (·.add (q * sz))) dn dc, .slice (some ad) m sc]).run P w = .ok (.int .i64 m) (w.setRow gb (cur.toList.take (q * sz) ++ vs ++ cur.toList.drop (q * sz + vs.length)).toArray) := by
        rw [Option.map_some, hadd]
        simp [Builtin.copy_, run_underlying ht.h, Builtin.lenOf, Builtin.firstCells, sizeOf, typeInfo, hi, hsz, hmin, ← hv, hl, hst, goInt]
      refine hsl hr (hK _ (mm.turn k hk (Chg.mono chg_setRow (fun b hb => by subst hb; rfl)) ⟨?_, .inr ⟨gb, c, _, rfl, Nat.zero_le _, setRow_heap w gb cur _ el _ hg, hnc, hcm, ?_, ?_⟩⟩ (fun b hb => .inl hb)))
      · rw [splice_length _ _ _ (by rw [hv, ho.1]; omega)]; exact ho.1
      · have := splice_length cur.toList (q * sz) vs (by rw [hv, Array.length_toList]; omega)
        rw [List.size_toArray]
        show (splice cur.toList (q * sz) vs).length = _
        rw [this, Array.length_toList]; exact hcs
      · rw [← htake]
        exact splice_takeN _ _ _ _ (by rw [hv]; omega) (by rw [hv, Array.length_toList]; omega)
end
end K
end Go.Proofs.Ytbcpabfemejlgaa
/- The walk's own small logic: a slice made of zero values. -/
namespace Go.Proofs.Ytbcpabfemejlgaa
namespace K
section
variable {P : Program} {e : Env} {w : World} {d : Option Nat} {ty : Nat} {pos : String} {af : Array Edge} {g : Option (Nat × Bool)} {K : Value → World → Prop}
variable {w0 : World} {F0 : Nat → Prop} {L : List It}
theorem o_mk {t el sz by_ n : Nat} {k k' : IntKind} {l c : Operand} {z : List Value} [ht : TSl P t el] [he : El P el sz by_ z] (m : Mem w0 F0 w L) (hl : ev e l = .int k ((n : Nat) : Int)) (hc : ev e c = .int k' ((n : Nat) : Int)) (hb : by_ * n ≤ 281474976710656) (hm : n ≤ maxLen)
    (hK : ∀ a w', Mem w0 F0 w' (L ++ [own el sz a n n (zrep z n)]) → K (.slice a n n) w') : OwpE P ⟨d, .makeSlice t l c, ty, pos, af, g⟩ e w K := by
  obtain ⟨i, zv, hi, hsz, hby, hz, hzc, hzl, h0⟩ := he.h
  have hb' : (i.bytes : Int) * ((n : Nat) : Int) ≤ 281474976710656 := by
    have h : ((i.bytes * n : Nat) : Int) ≤ 281474976710656 := by rw [hby]; omega
    rwa [Int.natCast_mul] at h
  have hr := run_make (P := P) w t el i zv ht.h hi hz k k' n n (by omega) (by omega) hb' (by unfold maxLen at hm; omega)
  have h3 : madeCells zv.cells (n * i.size) = (zrep z n).toArray := by
    unfold madeCells
    rw [hsz, hzc, ← hzl]; exact zrep_eq z n
  simp only [Int.toNat_natCast, h3] at hr
  unfold OwpE
  simp only [execOp, hl, hc, Sem.run_bind, hr, Result.andThen_ok]
  exact hK _ _ (own_made (n := n) (cs := zrep z n) m (by rw [zrep_length, hzl]) hm)
end
theorem zrep_u8 : ∀ n, zrep [.int .u8 0] n = u8s (List.replicate n 0)
  | 0 => rfl
  | n + 1 => by rw [zrep, zrep_u8 n, List.replicate_succ]; rfl
end K
end Go.Proofs.Ytbcpabfemejlgaa
/- The walk's own small logic, eleventh part: regions whose order is open, each operation that reads with a level of its own. (Printed by gen/mkp.py.) -/
namespace Go.Proofs.Ytbcpabfemejlgaa
namespace K
/-- What an operation asks of the world: nothing, B, or A. -/
def lev (A B : World → Prop) : Nat → World → Prop
  | 0, _ => True
  | 1, w => B w
  | _ + 2, w => A w
def lv (T : List Nat) (i : Nat) : Nat := match nth T i with | some n => n | none => 2
theorem lev_le {A B : World → Prop} (hAB : ∀ w, A w → B w) {n m : Nat} (h : n ≤ m) {w : World} (hm : lev A B m w) : lev A B n w := by
  match n, m, h with
  | 0, _, _ => trivial
  | 1, 1, _ => exact hm
  | 1, _ + 2, _ => exact hAB w hm
  | _ + 2, 0, h => omega
  | _ + 2, 1, h => omega
  | _ + 2, _ + 2, _ => exact hm
def aE2 (P : Program) (l0 : List Oper) (T : List Nat) (A B : World → Prop) (Q : Env → World → Prop) : Nat → Array Bool → Env → World → Prop
  | 0, listed, e, w => Region.ready .any l0.toArray listed = [] ∧ Q e w
  | f + 1, listed, e, w => (Region.ready .any l0.toArray listed = [] → Q e w) ∧
    ∀ i ∈ Region.ready .any l0.toArray listed, opE P l0 i (fun e' w' => lev A B (lv T i) w' ∧ aE2 P l0 T A B Q f (listed.setIfInBounds i true) e' w') e w
section
variable {P : Program} {l0 : List Oper} {Q : Env → World → Prop} {e : Env} {w : World}
theorem aE2.sound {N : Nat} {T : List Nat} {A B : World → Prop} (hd : l0.all (dstOk N) = true) : ∀ (f : Nat) (listed : Array Bool) (e : Env) (w : World) (a : Act), Agr N a e → aE2 P l0 T A B Q f listed e w →
    wpAny P .any l0.toArray (fun x a w => x = .normal ∧ ∃ e', Agr N a e' ∧ Q e' w) f listed a w
  | 0, listed, e, w, a, ha, h => ⟨h.1, rfl, e, ha, h.2⟩
  | f + 1, listed, e, w, a, ha, h => by
    refine ⟨fun h0 => ⟨rfl, e, ha, h.1 h0⟩, fun i hi => ?_⟩
    have h1 := h.2 i hi
    unfold opE at h1
    unfold wpOp
    rw [List.getElem?_toArray, ← nth_eq]
    cases ho : nth l0 i with
    | none => rw [ho] at h1; exact aE2.sound hd f _ e w a ha h1.2
    | some o =>
      rw [ho] at h1
      simp only at h1 ⊢
      have hdo : dstOk N o = true := List.all_eq_true.1 hd o (List.mem_of_getElem? (by rw [← nth_eq]; exact ho))
      rw [ha.wanted]
      cases hw : wantedE l0 o e with
      | true =>
        rw [hw] at h1
        rw [if_pos rfl]
        exact .inl (OwpE.wp ha h1 fun v w' hv => aE2.sound hd f _ _ w' _ (ha.put o v hdo) hv.2)
      | false =>
        rw [hw] at h1
        rw [if_neg (by simp)]
        exact aE2.sound hd f _ _ w _ (ha.put o undef hdo) h1.2
theorem aE2_first {T : List Nat} {A B S : World → Prop} {i : Nat} {oi : Oper} {v : Value} (hi : nth l0 i = some oi) (hsel : Region.noSelect l0.toArray = true) :
    ∀ (f : Nat) (listed : Array Bool) (e : Env) (w : World),
      (∀ j oj, nth l0 j = some oj → j ≠ i → listed.getD j true = false → (∀ x ∈ oj.after, Region.binds .any x = true → x.on ≠ i) → oi.apart l0.toArray oj = true) →
      (∀ j, M l0 i j = true → (nth l0 j).isSome = true → listed.getD j true = false) →
      (∀ j, (nth l0 j).isSome = true → j ≠ i → listed.getD j true = false → M l0 i j ≠ true → ∀ w, lev A B (lv T j) w → S w) →
      i ∈ Region.ready .any l0.toArray listed → PureE P l0 S oi e v → S w → (∀ w, S w → lev A B (lv T i) w → True) → (hVi : ∀ w, S w → lev A B (lv T i) w) → aE2 P l0 T A B Q f (listed.setIfInBounds i true) (up e oi.dst v) w → aE2 P l0 T A B Q (f + 1) listed e w := by
  have nosel : ∀ (j : Nat) (o : Oper) cs b, nth l0 j = some o → o.op ≠ .select cs b := fun j o cs b hj =>
    Region.noSelect_spec hsel j o cs b (by rw [List.getElem?_toArray, ← nth_eq]; exact hj)
  intro f
  induction f with
  | zero =>
    intro listed e w _ _ _ hr hp hS _ hVi H
    refine ⟨fun h => (by rw [h] at hr; cases hr), fun j hj => ?_⟩
    by_cases hji : j = i
    · subst hji
      unfold opE
      rw [hi]
      simp only
      rcases hp with ⟨hw, hr⟩ | ⟨hw, rfl⟩
      · rw [hw]; exact o_v (hr w hS) ⟨hVi w hS, H⟩
      · rw [hw]; exact ⟨hVi w hS, H⟩
    · have := ready_mono hj hji
      rw [H.1] at this
      cases this
  | succ f ih =>
    intro listed e w hfree hM hT hr hp hS hx hVi H
    refine ⟨fun h => (by rw [h] at hr; cases hr), fun j hj => ?_⟩
    by_cases hji : j = i
    · subst hji
      unfold opE
      rw [hi]
      simp only
      rcases hp with ⟨hw, hr⟩ | ⟨hw, rfl⟩
      · rw [hw]; exact o_v (hr w hS) ⟨hVi w hS, H⟩
      · rw [hw]; exact ⟨hVi w hS, H⟩
    · have h1 := H.2 j (ready_mono hj hji)
      obtain ⟨hjun, oj, hoj', hall⟩ := mem_ready.1 hj
      have hoj : nth l0 j = some oj := by rw [nth_eq, ← List.getElem?_toArray]; exact hoj'
      have hiun := (mem_ready.1 hr).1
      have unl : ∀ k, listed.getD k true = false → listed.getD k false = true → False := fun k h0 h1 => by
        rcases Nat.lt_or_ge k listed.size with h' | h'
        · simp [h'] at h0 h1; rw [h0] at h1; cases h1
        · simp [Array.getElem?_eq_none h'] at h1
      have hnot : ∀ x ∈ oj.after, Region.binds .any x = true → x.on ≠ i := fun x hx hb heq => unl i hiun (heq ▸ hall x hx hb)
      have hjM : M l0 i j ≠ true := fun hm => by
        obtain ⟨x, hx, hb, h2 | h2⟩ := M_spec hoj hm
        · exact hnot x hx hb h2
        · exact unl x.on (hM x.on h2 (M_some h2)) (hall x hx hb)
      have hTj := hT j (by rw [hoj]; rfl) hji hjun hjM
      have h2 := opE_swap hoj (hfree j oj hoj hji hjun hnot) (fun cs b => nosel i oi cs b hi) (fun cs b => nosel j oj cs b hoj) hp h1
      have keepUn : ∀ k, (listed.setIfInBounds j true).getD k true = false → k ≠ j ∧ listed.getD k true = false := fun k hk => by
        by_cases hjk : j = k
        · subst hjk
          rcases Nat.lt_or_ge j listed.size with h' | h'
          · simp [h'] at hk
          · simp [Array.getElem?_eq_none h'] at hjun
        · exact ⟨Ne.symm hjk, by rw [getD_set_ne true hjk] at hk; exact hk⟩
      refine opE_mono h2 fun e' w' h3 => ⟨h3.2.1, ih (listed.setIfInBounds j true) e' w' ?_ ?_ ?_ (ready_mono hr (Ne.symm hji)) h3.1 (hTj w' h3.2.1) hx hVi ?_⟩
      · exact fun k ok hk hki hun hno => hfree k ok hk hki (keepUn k hun).2 hno
      · intro k hk hks
        have hkj : k ≠ j := fun e => hjM (e ▸ hk)
        rw [getD_set_ne true (Ne.symm hkj)]
        exact hM k hk hks
      · exact fun k hks hki hun hm => hT k hks hki (keepUn k hun).2 hm
      · rw [Array.setIfInBounds_comm _ _ hji]
        exact h3.2.2
def wo2 (P : Program) (l0 : List Oper) (T : List Nat) (A B : World → Prop) (Q : Env → World → Prop) : List (Nat × Option Nat) → Env → World → Prop
  | [], e, w => Q e w
  | (i, some n) :: r, e, w => ∃ o v, nth l0 i = some o ∧ lev A B n w ∧ PureE P l0 (lev A B n) o e v ∧ wo2 P l0 T A B Q r (up e o.dst v) w
  | (i, none) :: r, e, w => ∃ o, nth l0 i = some o ∧ (bif wantedE l0 o e then OwpE P o e w (fun v w' => lev A B (lv T i) w' ∧ wo2 P l0 T A B Q r (up e o.dst v) w') else lev A B (lv T i) w ∧ wo2 P l0 T A B Q r (up e o.dst undef) w)
def tOk2 (l0 : List Oper) (T : List Nat) (listed : Array Bool) (i n : Nat) : Bool :=
  (List.range l0.length).all fun j => (!M l0 i j || !listed.getD j true) && (j == i || listed.getD j true || Nat.ble n (lv T j) || M l0 i j)
def orderB2 (ops : Array Oper) (T : List Nat) : List (Nat × Option Nat) → Array Bool → Bool
  | [], listed => (Region.ready .any ops listed).isEmpty
  | (i, some n) :: r, listed => Region.free .any ops listed i && Nat.ble (lv T i) n && tOk2 ops.toList T listed i n && (Region.ready .any ops listed).contains i && orderB2 ops T r (listed.setIfInBounds i true)
  | (i, none) :: r, listed => (Region.ready .any ops listed == [i]) && orderB2 ops T r (listed.setIfInBounds i true)
theorem wo2.sound {T : List Nat} {A B : World → Prop} (hAB : ∀ w, A w → B w) (hsel : Region.noSelect l0.toArray = true) : ∀ (r : List (Nat × Option Nat)) (listed : Array Bool) (e : Env) (w : World), orderB2 l0.toArray T r listed = true → wo2 P l0 T A B Q r e w → aE2 P l0 T A B Q r.length listed e w
  | [], listed, e, w, ho, h => ⟨by simpa [orderB2] using ho, h⟩
  | (i, some n) :: r, listed, e, w, ho, h => by
    obtain ⟨o, v, hi, hS, hp, hr⟩ := h
    simp only [orderB2, Bool.and_eq_true] at ho
    obtain ⟨⟨⟨⟨hf, hle⟩, ht⟩, hrd⟩, ho'⟩ := ho
    have hi' : l0.toArray[i]? = some o := by rw [List.getElem?_toArray, ← nth_eq]; exact hi
    have hfree : ∀ j oj, nth l0 j = some oj → j ≠ i → listed.getD j true = false → (∀ x ∈ oj.after, Region.binds .any x = true → x.on ≠ i) → o.apart l0.toArray oj = true :=
      fun j oj hj hne hun hno => Region.free_spec hi' hf j oj (by rw [List.getElem?_toArray, ← nth_eq]; exact hj) hne hun hno
    have hle := Nat.le_of_ble_eq_true hle
    refine aE2_first (S := lev A B n) hi hsel r.length listed e w hfree ?_ ?_ (by simpa using hrd) hp hS (fun _ _ _ => trivial) (fun w hw => lev_le hAB hle hw) (wo2.sound hAB hsel r _ _ w ho' hr)
    · intro j hm hjs
      simp only [tOk2, List.all_eq_true, List.mem_range] at ht
      have hlt : j < l0.length := by
        cases hn : nth l0 j with
        | none => rw [hn] at hjs; cases hjs
        | some o => exact nth_lt _ _ _ hn
      have h1 := ht j hlt
      simp only [hm, Bool.not_true, Bool.false_or, Bool.and_eq_true, Bool.not_eq_true'] at h1
      exact h1.1
    · intro j hjs hne hun hnm w hw
      simp only [tOk2, List.all_eq_true, List.mem_range] at ht
      have hlt : j < l0.length := by
        cases hn : nth l0 j with
        | none => rw [hn] at hjs; cases hjs
        | some o => exact nth_lt _ _ _ hn
      have h1 := ht j hlt
      have hnm : M l0 i j = false := by cases hq : M l0 i j with | false => rfl | true => exact absurd hq hnm
      simp only [hun, hnm, Bool.and_eq_true, Bool.or_eq_true, beq_iff_eq, Bool.false_eq_true, or_false, hne, false_or] at h1
      exact lev_le hAB (Nat.le_of_ble_eq_true h1.2) hw
  | (i, none) :: r, listed, e, w, ho, h => by
    obtain ⟨o, hi, hr⟩ := h
    simp only [orderB2, Bool.and_eq_true, beq_iff_eq] at ho
    refine ⟨fun h0 => (by rw [ho.1] at h0; cases h0), fun k hk => ?_⟩
    rw [ho.1] at hk
    simp only [List.mem_singleton] at hk
    subst hk
    unfold opE
    rw [hi]
    simp only
    cases hw : wantedE l0 o e with
    | true => rw [hw] at hr; exact OwpE.mono hr fun v w' ⟨hs, hv⟩ => ⟨hs, wo2.sound hAB hsel r _ _ w' ho.2 hv⟩
    | false => rw [hw] at hr; exact ⟨hr.1, wo2.sound hAB hsel r _ _ w ho.2 hr.2⟩
theorem c_draw2 {N id : Nat} {l : List Oper} {Rt : Env → World → Prop} {Q : Post} (hm : P.follows .mixedOrders = true) (r : List (Nat × Option Nat)) (T : List Nat) (A B : World → Prop) (hAB : ∀ w, A w → B w) (hsel : Region.noSelect l.toArray = true) (hd : l.all (dstOk N) = true) (hlen : Nat.beq r.length l.length = true)
    (ho : orderB2 l.toArray T r (Array.replicate l.toArray.size false) = true) (h : ∀ w', Chg No w w' → wo2 P l T A B (fun e w => Q .normal e w) r e w') : wpE P N Rt (.region id l.toArray true) Q e w := by
  intro a ha
  have h1 := aE2.sound (N := N) hd r.length _ e _ a ha (wo2.sound hAB hsel r _ e _ ho (h _ (Chg.drawn No w (w.drawn + 1))))
  have hl : r.length = l.toArray.size := by rw [Nat.eq_of_beq_eq_true hlen]; simp
  rw [hl] at h1
  refine wp_mono (wp_region_any hm h1) fun x a' w' hx => ?_
  obtain ⟨rfl, e', ha', hq⟩ := hx
  exact ⟨e', ha', hq⟩
theorem c_sdraw2 {N id : Nat} {l : List Oper} {y : Code} {Rt : Env → World → Prop} {Q : Post} (hm : P.follows .mixedOrders = true) (r : List (Nat × Option Nat)) (T : List Nat) (A B : World → Prop) (hAB : ∀ w, A w → B w) (hsel : Region.noSelect l.toArray = true) (hd : l.all (dstOk N) = true) (hlen : Nat.beq r.length l.length = true)
    (ho : orderB2 l.toArray T r (Array.replicate l.toArray.size false) = true) (h : ∀ w', Chg No w w' → wo2 P l T A B (fun e w => wpE P N Rt y Q e w) r e w') : wpE P N Rt (.seq (.region id l.toArray true) y) Q e w := c_seq (c_draw2 hm r T A B hAB hsel hd hlen ho h)

variable {T : List Nat} {A B : World → Prop} {r : List (Nat × Option Nat)} {i j t dd : Nat} {b c : Bool} {g : Option (Nat × Bool)} {op : Op} {ty : Nat} {pos : String} {af : Array Edge} {v : Value}
theorem qn (h : Q e w) : wo2 P l0 T A B Q [] e w := h
theorem q_g {n : Nat} {u q : Bool} (hi : nth l0 i = some ⟨some dd, op, ty, pos, af, some (j, u)⟩) (hw : wantedE l0 ⟨some dd, op, ty, pos, af, some (j, u)⟩ e = q) (hr : q = true → ∀ w, lev A B n w → (execOp (ev e) ⟨some dd, op, ty, pos, af, some (j, u)⟩).run P w = .ok (.value v) w) (hS : lev A B n w) (k : wo2 P l0 T A B Q r (upd e dd (sel q v)) w) : wo2 P l0 T A B Q ((i, some n) :: r) e w := by
  refine ⟨_, sel q v, hi, hS, ?_, k⟩
  cases q with
  | true => exact .inl ⟨hw, hr rfl⟩
  | false => exact .inr ⟨hw, rfl⟩
/-- A guarded effect whose value is known, and that keeps I. -/
theorem q_gw {u q : Bool} {I : World → Prop} (hi : nth l0 i = some ⟨some dd, op, ty, pos, af, some (j, u)⟩) (hw : wantedE l0 ⟨some dd, op, ty, pos, af, some (j, u)⟩ e = q) (h0 : I w) (hr : q = true → OwpE P ⟨some dd, op, ty, pos, af, some (j, u)⟩ e w (fun x w' => x = v ∧ I w')) (k : ∀ w', I w' → lev A B (lv T i) w' ∧ wo2 P l0 T A B Q r (upd e dd (sel q v)) w') : wo2 P l0 T A B Q ((i, none) :: r) e w := by
  refine ⟨_, hi, ?_⟩
  rw [hw]
  cases q with
  | true => exact OwpE.mono (hr rfl) fun x w' ⟨hx, hI⟩ => by subst hx; exact k w' hI
  | false => exact k w h0
theorem qo (hi : nth l0 i = some ⟨some dd, op, ty, pos, af, none⟩) (h : OwpE P ⟨some dd, op, ty, pos, af, none⟩ e w (fun v w' => lev A B (lv T i) w' ∧ wo2 P l0 T A B Q r (upd e dd v) w')) : wo2 P l0 T A B Q ((i, none) :: r) e w := ⟨_, hi, h⟩
theorem qs (hi : nth l0 i = some ⟨none, op, ty, pos, af, none⟩) (h : OwpE P ⟨none, op, ty, pos, af, none⟩ e w (fun _ w' => lev A B (lv T i) w' ∧ wo2 P l0 T A B Q r e w')) : wo2 P l0 T A B Q ((i, none) :: r) e w := ⟨_, hi, h⟩
theorem q01 (hi : nth l0 i = some ⟨some dd, op, ty, pos, af, none⟩) (hr : ∀ w, (execOp (ev e) ⟨some dd, op, ty, pos, af, none⟩).run P w = .ok (.value v) w) (k : wo2 P l0 T A B Q r (upd e dd v) w) : wo2 P l0 T A B Q ((i, some 0) :: r) e w := ⟨_, v, hi, trivial, .inl ⟨rfl, (fun w _ => hr w)⟩, k⟩
theorem q0T (hi : nth l0 i = some ⟨some dd, op, ty, pos, af, some (j, true)⟩) (ht : gd l0 j = some t) (hb : e t = .bool b) (hr : b = true → ∀ w, (execOp (ev e) ⟨some dd, op, ty, pos, af, some (j, true)⟩).run P w = .ok (.value v) w) (k : wo2 P l0 T A B Q r (upd e dd (sel b v)) w) : wo2 P l0 T A B Q ((i, some 0) :: r) e w := q_g hi (by rw [wanted_of rfl ht hb]; cases b <;> rfl) (fun h w _ => hr h w) trivial k
theorem q0Ts (hi : nth l0 i = some ⟨some dd, op, ty, pos, af, some (j, true)⟩) (ht : gd l0 j = some t) (hb : e t = sel c (.bool b)) (hr : (c && b) = true → ∀ w, (execOp (ev e) ⟨some dd, op, ty, pos, af, some (j, true)⟩).run P w = .ok (.value v) w) (k : wo2 P l0 T A B Q r (upd e dd (sel (c && b) v)) w) : wo2 P l0 T A B Q ((i, some 0) :: r) e w := q_g hi (by rw [wanted_of_sel rfl ht hb]; cases b <;> rfl) (fun h w _ => hr h w) trivial k
theorem q0F (hi : nth l0 i = some ⟨some dd, op, ty, pos, af, some (j, false)⟩) (ht : gd l0 j = some t) (hb : e t = .bool b) (hr : (!b) = true → ∀ w, (execOp (ev e) ⟨some dd, op, ty, pos, af, some (j, false)⟩).run P w = .ok (.value v) w) (k : wo2 P l0 T A B Q r (upd e dd (sel (!b) v)) w) : wo2 P l0 T A B Q ((i, some 0) :: r) e w := q_g hi (by rw [wanted_of rfl ht hb]; cases b <;> rfl) (fun h w _ => hr h w) trivial k
theorem q0Fs (hi : nth l0 i = some ⟨some dd, op, ty, pos, af, some (j, false)⟩) (ht : gd l0 j = some t) (hb : e t = sel c (.bool b)) (hr : (c && !b) = true → ∀ w, (execOp (ev e) ⟨some dd, op, ty, pos, af, some (j, false)⟩).run P w = .ok (.value v) w) (k : wo2 P l0 T A B Q r (upd e dd (sel (c && !b) v)) w) : wo2 P l0 T A B Q ((i, some 0) :: r) e w := q_g hi (by rw [wanted_of_sel rfl ht hb]; cases b <;> rfl) (fun h w _ => hr h w) trivial k
theorem qB1 (hi : nth l0 i = some ⟨some dd, op, ty, pos, af, none⟩) (hr : ∀ w, B w → (execOp (ev e) ⟨some dd, op, ty, pos, af, none⟩).run P w = .ok (.value v) w) (hS : B w) (k : wo2 P l0 T A B Q r (upd e dd v) w) : wo2 P l0 T A B Q ((i, some 1) :: r) e w := ⟨_, v, hi, hS, .inl ⟨rfl, hr⟩, k⟩
theorem qBT (hi : nth l0 i = some ⟨some dd, op, ty, pos, af, some (j, true)⟩) (ht : gd l0 j = some t) (hb : e t = .bool b) (hr : b = true → ∀ w, B w → (execOp (ev e) ⟨some dd, op, ty, pos, af, some (j, true)⟩).run P w = .ok (.value v) w) (hS : B w) (k : wo2 P l0 T A B Q r (upd e dd (sel b v)) w) : wo2 P l0 T A B Q ((i, some 1) :: r) e w := q_g hi (by rw [wanted_of rfl ht hb]; cases b <;> rfl) hr hS k
theorem qBTs (hi : nth l0 i = some ⟨some dd, op, ty, pos, af, some (j, true)⟩) (ht : gd l0 j = some t) (hb : e t = sel c (.bool b)) (hr : (c && b) = true → ∀ w, B w → (execOp (ev e) ⟨some dd, op, ty, pos, af, some (j, true)⟩).run P w = .ok (.value v) w) (hS : B w) (k : wo2 P l0 T A B Q r (upd e dd (sel (c && b) v)) w) : wo2 P l0 T A B Q ((i, some 1) :: r) e w := q_g hi (by rw [wanted_of_sel rfl ht hb]; cases b <;> rfl) hr hS k
theorem qBF (hi : nth l0 i = some ⟨some dd, op, ty, pos, af, some (j, false)⟩) (ht : gd l0 j = some t) (hb : e t = .bool b) (hr : (!b) = true → ∀ w, B w → (execOp (ev e) ⟨some dd, op, ty, pos, af, some (j, false)⟩).run P w = .ok (.value v) w) (hS : B w) (k : wo2 P l0 T A B Q r (upd e dd (sel (!b) v)) w) : wo2 P l0 T A B Q ((i, some 1) :: r) e w := q_g hi (by rw [wanted_of rfl ht hb]; cases b <;> rfl) hr hS k
theorem qBFs (hi : nth l0 i = some ⟨some dd, op, ty, pos, af, some (j, false)⟩) (ht : gd l0 j = some t) (hb : e t = sel c (.bool b)) (hr : (c && !b) = true → ∀ w, B w → (execOp (ev e) ⟨some dd, op, ty, pos, af, some (j, false)⟩).run P w = .ok (.value v) w) (hS : B w) (k : wo2 P l0 T A B Q r (upd e dd (sel (c && !b) v)) w) : wo2 P l0 T A B Q ((i, some 1) :: r) e w := q_g hi (by rw [wanted_of_sel rfl ht hb]; cases b <;> rfl) hr hS k
theorem qA1 (hi : nth l0 i = some ⟨some dd, op, ty, pos, af, none⟩) (hr : ∀ w, A w → (execOp (ev e) ⟨some dd, op, ty, pos, af, none⟩).run P w = .ok (.value v) w) (hS : A w) (k : wo2 P l0 T A B Q r (upd e dd v) w) : wo2 P l0 T A B Q ((i, some 2) :: r) e w := ⟨_, v, hi, hS, .inl ⟨rfl, hr⟩, k⟩
theorem qAT (hi : nth l0 i = some ⟨some dd, op, ty, pos, af, some (j, true)⟩) (ht : gd l0 j = some t) (hb : e t = .bool b) (hr : b = true → ∀ w, A w → (execOp (ev e) ⟨some dd, op, ty, pos, af, some (j, true)⟩).run P w = .ok (.value v) w) (hS : A w) (k : wo2 P l0 T A B Q r (upd e dd (sel b v)) w) : wo2 P l0 T A B Q ((i, some 2) :: r) e w := q_g hi (by rw [wanted_of rfl ht hb]; cases b <;> rfl) hr hS k
theorem qATs (hi : nth l0 i = some ⟨some dd, op, ty, pos, af, some (j, true)⟩) (ht : gd l0 j = some t) (hb : e t = sel c (.bool b)) (hr : (c && b) = true → ∀ w, A w → (execOp (ev e) ⟨some dd, op, ty, pos, af, some (j, true)⟩).run P w = .ok (.value v) w) (hS : A w) (k : wo2 P l0 T A B Q r (upd e dd (sel (c && b) v)) w) : wo2 P l0 T A B Q ((i, some 2) :: r) e w := q_g hi (by rw [wanted_of_sel rfl ht hb]; cases b <;> rfl) hr hS k
theorem qAF (hi : nth l0 i = some ⟨some dd, op, ty, pos, af, some (j, false)⟩) (ht : gd l0 j = some t) (hb : e t = .bool b) (hr : (!b) = true → ∀ w, A w → (execOp (ev e) ⟨some dd, op, ty, pos, af, some (j, false)⟩).run P w = .ok (.value v) w) (hS : A w) (k : wo2 P l0 T A B Q r (upd e dd (sel (!b) v)) w) : wo2 P l0 T A B Q ((i, some 2) :: r) e w := q_g hi (by rw [wanted_of rfl ht hb]; cases b <;> rfl) hr hS k
theorem qAFs (hi : nth l0 i = some ⟨some dd, op, ty, pos, af, some (j, false)⟩) (ht : gd l0 j = some t) (hb : e t = sel c (.bool b)) (hr : (c && !b) = true → ∀ w, A w → (execOp (ev e) ⟨some dd, op, ty, pos, af, some (j, false)⟩).run P w = .ok (.value v) w) (hS : A w) (k : wo2 P l0 T A B Q r (upd e dd (sel (c && !b) v)) w) : wo2 P l0 T A B Q ((i, some 2) :: r) e w := q_g hi (by rw [wanted_of_sel rfl ht hb]; cases b <;> rfl) hr hS k
theorem qTw {I : World → Prop} (hi : nth l0 i = some ⟨some dd, op, ty, pos, af, some (j, true)⟩) (ht : gd l0 j = some t) (hb : e t = .bool b) (h0 : I w) (hr : b = true → OwpE P ⟨some dd, op, ty, pos, af, some (j, true)⟩ e w (fun x w' => x = v ∧ I w')) (k : ∀ w', I w' → lev A B (lv T i) w' ∧ wo2 P l0 T A B Q r (upd e dd (sel b v)) w') : wo2 P l0 T A B Q ((i, none) :: r) e w := q_gw hi (by rw [wanted_of rfl ht hb]; cases b <;> rfl) h0 hr k
theorem qTsw {I : World → Prop} (hi : nth l0 i = some ⟨some dd, op, ty, pos, af, some (j, true)⟩) (ht : gd l0 j = some t) (hb : e t = sel c (.bool b)) (h0 : I w) (hr : (c && b) = true → OwpE P ⟨some dd, op, ty, pos, af, some (j, true)⟩ e w (fun x w' => x = v ∧ I w')) (k : ∀ w', I w' → lev A B (lv T i) w' ∧ wo2 P l0 T A B Q r (upd e dd (sel (c && b) v)) w') : wo2 P l0 T A B Q ((i, none) :: r) e w := q_gw hi (by rw [wanted_of_sel rfl ht hb]; cases b <;> rfl) h0 hr k
theorem qFw {I : World → Prop} (hi : nth l0 i = some ⟨some dd, op, ty, pos, af, some (j, false)⟩) (ht : gd l0 j = some t) (hb : e t = .bool b) (h0 : I w) (hr : (!b) = true → OwpE P ⟨some dd, op, ty, pos, af, some (j, false)⟩ e w (fun x w' => x = v ∧ I w')) (k : ∀ w', I w' → lev A B (lv T i) w' ∧ wo2 P l0 T A B Q r (upd e dd (sel (!b) v)) w') : wo2 P l0 T A B Q ((i, none) :: r) e w := q_gw hi (by rw [wanted_of rfl ht hb]; cases b <;> rfl) h0 hr k
theorem qFsw {I : World → Prop} (hi : nth l0 i = some ⟨some dd, op, ty, pos, af, some (j, false)⟩) (ht : gd l0 j = some t) (hb : e t = sel c (.bool b)) (h0 : I w) (hr : (c && !b) = true → OwpE P ⟨some dd, op, ty, pos, af, some (j, false)⟩ e w (fun x w' => x = v ∧ I w')) (k : ∀ w', I w' → lev A B (lv T i) w' ∧ wo2 P l0 T A B Q r (upd e dd (sel (c && !b) v)) w') : wo2 P l0 T A B Q ((i, none) :: r) e w := q_gw hi (by rw [wanted_of_sel rfl ht hb]; cases b <;> rfl) h0 hr k
end
/-! a guard that is known -/
section
variable {P : Program} {l0 : List Oper} {Q : Env → World → Prop} {rest : List Oper} {e : Env} {w : World} {dd j t : Nat} {op : Op} {ty : Nat} {pos : String} {af : Array Edge} {v : Value} {u : Bool}
theorem s1k (ht : gd l0 j = some t) (hb : e t = .bool u) (hr : (execOp (ev e) ⟨some dd, op, ty, pos, af, some (j, u)⟩).run P w = .ok (.value v) w) (k : wlE P l0 Q rest (upd e dd v) w) : wlE P l0 Q (⟨some dd, op, ty, pos, af, some (j, u)⟩ :: rest) e w := by
  unfold wlE
  rw [wanted_of rfl ht hb, beq_self_eq_true]
  exact o_v hr k
theorem sok (ht : gd l0 j = some t) (hb : e t = .bool u) (h : OwpE P ⟨some dd, op, ty, pos, af, some (j, u)⟩ e w (fun v w' => wlE P l0 Q rest (upd e dd v) w')) : wlE P l0 Q (⟨some dd, op, ty, pos, af, some (j, u)⟩ :: rest) e w := by
  unfold wlE
  rw [wanted_of rfl ht hb, beq_self_eq_true]
  exact h
theorem ssk (ht : gd l0 j = some t) (hb : e t = .bool u) (h : OwpE P ⟨none, op, ty, pos, af, some (j, u)⟩ e w (fun _ w' => wlE P l0 Q rest e w')) : wlE P l0 Q (⟨none, op, ty, pos, af, some (j, u)⟩ :: rest) e w := by
  unfold wlE
  rw [wanted_of rfl ht hb, beq_self_eq_true]
  exact h
theorem s1n (ht : gd l0 j = some t) (hb : e t = .bool (!u)) (k : wlE P l0 Q rest (upd e dd undef) w) : wlE P l0 Q (⟨some dd, op, ty, pos, af, some (j, u)⟩ :: rest) e w := by
  unfold wlE
  rw [wanted_of rfl ht hb]
  cases u <;> exact k
end
/-! a guard that is known, the order open -/
section
variable {P : Program} {l0 : List Oper} {Q : Env → World → Prop} {e : Env} {w : World} {T : List Nat} {A B : World → Prop} {r : List (Nat × Option Nat)} {i j t dd : Nat} {op : Op} {ty : Nat} {pos : String} {af : Array Edge} {v : Value} {u : Bool}
theorem wanted_k {o : Oper} (ho : o.guard = some (j, u)) (ht : gd l0 j = some t) (hb : e t = .bool u) : wantedE l0 o e = true := by rw [wanted_of ho ht hb, beq_self_eq_true]
theorem wanted_n {o : Oper} (ho : o.guard = some (j, u)) (ht : gd l0 j = some t) (hb : e t = .bool (!u)) : wantedE l0 o e = false := by rw [wanted_of ho ht hb]; cases u <;> rfl
theorem q0K (hi : nth l0 i = some ⟨some dd, op, ty, pos, af, some (j, u)⟩) (ht : gd l0 j = some t) (hb : e t = .bool u) (hr : ∀ w, (execOp (ev e) ⟨some dd, op, ty, pos, af, some (j, u)⟩).run P w = .ok (.value v) w) (k : wo2 P l0 T A B Q r (upd e dd v) w) : wo2 P l0 T A B Q ((i, some 0) :: r) e w := ⟨_, v, hi, trivial, .inl ⟨wanted_k rfl ht hb, fun w _ => hr w⟩, k⟩
theorem qBK (hi : nth l0 i = some ⟨some dd, op, ty, pos, af, some (j, u)⟩) (ht : gd l0 j = some t) (hb : e t = .bool u) (hr : ∀ w, B w → (execOp (ev e) ⟨some dd, op, ty, pos, af, some (j, u)⟩).run P w = .ok (.value v) w) (hS : B w) (k : wo2 P l0 T A B Q r (upd e dd v) w) : wo2 P l0 T A B Q ((i, some 1) :: r) e w := ⟨_, v, hi, hS, .inl ⟨wanted_k rfl ht hb, hr⟩, k⟩
theorem qAK (hi : nth l0 i = some ⟨some dd, op, ty, pos, af, some (j, u)⟩) (ht : gd l0 j = some t) (hb : e t = .bool u) (hr : ∀ w, A w → (execOp (ev e) ⟨some dd, op, ty, pos, af, some (j, u)⟩).run P w = .ok (.value v) w) (hS : A w) (k : wo2 P l0 T A B Q r (upd e dd v) w) : wo2 P l0 T A B Q ((i, some 2) :: r) e w := ⟨_, v, hi, hS, .inl ⟨wanted_k rfl ht hb, hr⟩, k⟩
theorem q0N (hi : nth l0 i = some ⟨some dd, op, ty, pos, af, some (j, u)⟩) (ht : gd l0 j = some t) (hb : e t = .bool (!u)) (k : wo2 P l0 T A B Q r (upd e dd undef) w) : wo2 P l0 T A B Q ((i, some 0) :: r) e w := ⟨_, _, hi, trivial, .inr ⟨wanted_n rfl ht hb, rfl⟩, k⟩
theorem qBN (hi : nth l0 i = some ⟨some dd, op, ty, pos, af, some (j, u)⟩) (ht : gd l0 j = some t) (hb : e t = .bool (!u)) (hS : B w) (k : wo2 P l0 T A B Q r (upd e dd undef) w) : wo2 P l0 T A B Q ((i, some 1) :: r) e w := ⟨_, _, hi, hS, .inr ⟨wanted_n rfl ht hb, rfl⟩, k⟩
theorem qAN (hi : nth l0 i = some ⟨some dd, op, ty, pos, af, some (j, u)⟩) (ht : gd l0 j = some t) (hb : e t = .bool (!u)) (hS : A w) (k : wo2 P l0 T A B Q r (upd e dd undef) w) : wo2 P l0 T A B Q ((i, some 2) :: r) e w := ⟨_, _, hi, hS, .inr ⟨wanted_n rfl ht hb, rfl⟩, k⟩
theorem qoK (hi : nth l0 i = some ⟨some dd, op, ty, pos, af, some (j, u)⟩) (ht : gd l0 j = some t) (hb : e t = .bool u) (h : OwpE P ⟨some dd, op, ty, pos, af, some (j, u)⟩ e w (fun v w' => lev A B (lv T i) w' ∧ wo2 P l0 T A B Q r (upd e dd v) w')) : wo2 P l0 T A B Q ((i, none) :: r) e w := ⟨_, hi, by rw [wanted_k rfl ht hb]; exact h⟩
theorem qsK (hi : nth l0 i = some ⟨none, op, ty, pos, af, some (j, u)⟩) (ht : gd l0 j = some t) (hb : e t = .bool u) (h : OwpE P ⟨none, op, ty, pos, af, some (j, u)⟩ e w (fun _ w' => lev A B (lv T i) w' ∧ wo2 P l0 T A B Q r e w')) : wo2 P l0 T A B Q ((i, none) :: r) e w := ⟨_, hi, by rw [wanted_k rfl ht hb]; exact h⟩
theorem qoN {dst : Option Nat} (hi : nth l0 i = some ⟨dst, op, ty, pos, af, some (j, u)⟩) (ht : gd l0 j = some t) (hb : e t = .bool (!u)) (k : lev A B (lv T i) w ∧ wo2 P l0 T A B Q r (up e dst undef) w) : wo2 P l0 T A B Q ((i, none) :: r) e w := ⟨_, hi, by rw [wanted_n rfl ht hb]; exact k⟩
theorem wanted_u {o : Oper} (ho : o.guard = some (j, u)) (ht : gd l0 j = some t) (hb : e t = undef) : wantedE l0 o e = false := by
  have h := wanted_of_sel (c := false) (b := u) ho ht hb
  rw [h]; rfl
theorem q0U (hi : nth l0 i = some ⟨some dd, op, ty, pos, af, some (j, u)⟩) (ht : gd l0 j = some t) (hb : e t = undef) (k : wo2 P l0 T A B Q r (upd e dd undef) w) : wo2 P l0 T A B Q ((i, some 0) :: r) e w := ⟨_, _, hi, trivial, .inr ⟨wanted_u rfl ht hb, rfl⟩, k⟩
theorem qBU (hi : nth l0 i = some ⟨some dd, op, ty, pos, af, some (j, u)⟩) (ht : gd l0 j = some t) (hb : e t = undef) (hS : B w) (k : wo2 P l0 T A B Q r (upd e dd undef) w) : wo2 P l0 T A B Q ((i, some 1) :: r) e w := ⟨_, _, hi, hS, .inr ⟨wanted_u rfl ht hb, rfl⟩, k⟩
theorem qAU (hi : nth l0 i = some ⟨some dd, op, ty, pos, af, some (j, u)⟩) (ht : gd l0 j = some t) (hb : e t = undef) (hS : A w) (k : wo2 P l0 T A B Q r (upd e dd undef) w) : wo2 P l0 T A B Q ((i, some 2) :: r) e w := ⟨_, _, hi, hS, .inr ⟨wanted_u rfl ht hb, rfl⟩, k⟩
theorem qoU {dst : Option Nat} (hi : nth l0 i = some ⟨dst, op, ty, pos, af, some (j, u)⟩) (ht : gd l0 j = some t) (hb : e t = undef) (k : lev A B (lv T i) w ∧ wo2 P l0 T A B Q r (up e dst undef) w) : wo2 P l0 T A B Q ((i, none) :: r) e w := ⟨_, hi, by rw [wanted_u rfl ht hb]; exact k⟩
variable {rest : List Oper}
theorem s1u (ht : gd l0 j = some t) (hb : e t = undef) (k : wlE P l0 Q rest (upd e dd undef) w) : wlE P l0 Q (⟨some dd, op, ty, pos, af, some (j, u)⟩ :: rest) e w := by
  unfold wlE
  rw [wanted_u rfl ht hb]
  exact k
theorem ssn (ht : gd l0 j = some t) (hb : e t = .bool (!u)) (k : wlE P l0 Q rest e w) : wlE P l0 Q (⟨none, op, ty, pos, af, some (j, u)⟩ :: rest) e w := by
  unfold wlE
  rw [wanted_n rfl ht hb]
  exact k
end
end K
end Go.Proofs.Ytbcpabfemejlgaa
/- varint.Take: the walk. -/
namespace Go.Proofs.Ytbcpabfemejlgaa
open K
set_option maxRecDepth 100000
set_option maxHeartbeats 4000000

/-- A slice whose bytes are these. -/
def Sl (w : World) (v : Value) (b : List UInt8) : Prop := ∃ a c, v = .slice a b.length c ∧ b.length ≤ c ∧ Cells w a (u8s b)
theorem nth_u8s (l : List UInt8) (i : Nat) (h : i < l.length) : nth (u8s l) ((i : Int).toNat * 1) = some (u8 (l.getD i 0)) := by
  rw [nth_eq]
  simp [u8s, List.getD, h]
theorem K.Cells.some {w : World} {a : Option Addr} {cs : List Value} (h : Cells w a cs) {j : Nat} {v : Value} (hj : nth cs j = some v) : a.isSome = true := by
  obtain ⟨ad, rfl, _⟩ := h j v hj
  rfl
theorem shl7 (x : Int) (i : Nat) (hi : i ≤ 9) : IntKind.u64.wrap (x * 2 ^ (min (7 * (i : Int)).toNat IntKind.u64.bits)) = IntKind.u64.wrap (x * 2 ^ (7 * i)) := by
  have : min (7 * (i : Int)).toNat IntKind.u64.bits = 7 * i := by show min (7 * (i : Int)).toNat 64 = 7 * i; omega
  rw [this]
theorem drop_get (b : List UInt8) (i : Nat) (h : i < b.length) : b.drop i = b.getD i 0 :: b.drop (i + 1) := by
  rw [List.drop_eq_getElem_cons h]
  simp [List.getD, h]

theorem c_vtake (b : List UInt8) (hb : b.length ≤ 4611686018427387904) (v : Value) (w : World) (hs : Sl w v b) : Cl Try.prog 30 #[v] w (fun r w' => r = .tuple #[.int .u64 (vtake b).1, .int .i64 (vtake b).2.1, .int .i64 (vtake b).2.2] ∧ Chg No w w') := by
  obtain ⟨a, c, rfl, hc, H⟩ := hs
  refine f_enter (args := [_]) Try.func30 rfl rfl ?_
  have mm := Mem.nil No w
  have hmin : (min (b.length : Int) 10) = ((min b.length 10 : Nat) : Int) := by omega
  refine c_sreg rfl ?_
  refine s1 (r_asi rfl) ?_
  refine s1 (r_asi rfl) ?_
  refine s1 (r_asi rfl) ?_
  refine wn ?_
  refine c_seq ?_
  refine c_sreg rfl ?_
  refine s1 (r_mvs rfl) ?_
  refine s1 (r_mvs rfl) ?_
  refine s1 (r_len rfl) ?_
  refine s1 (r_min2 rfl rfl) ?_
  refine s1 (r_slh rfl rfl (by omega) (by omega)) ?_
  refine s1 (r_len rfl) ?_
  refine s1 (r_mvi rfl) ?_
  refine wn ?_
  refine c_block ?_
  refine c_loop (fun k e w' => ∃ (i m : Nat), k + i = min b.length 10 ∧ e 0 = .slice a b.length c ∧ e 2 = .int .u64 m ∧ e 11 = .slice a (min b.length 10) c ∧ e 12 = .int .i64 (min b.length 10 : Nat) ∧ e 13 = .int .i64 i ∧ Mem w No w' [] ∧ (i ≤ 9 → m < 128 ^ i ∧ vgo (b.drop i) i m = vtake b) ∧ (i = 10 → vtake b = (0, 0, 3))) (min b.length 10) ?_ ?_
  · refine ⟨0, 0, rfl, rfl, rfl, ?_, ?_, rfl, mm, fun _ => ⟨by decide, rfl⟩, fun h => by cases h⟩
    · show Value.slice a (min (b.length : Int) 10).toNat c = _
      rw [hmin]; rfl
    · show Value.int .i64 (((min (b.length : Int) 10).toNat : Nat) : Int) = _
      rw [hmin]; rfl
  generalize hN : min b.length 10 = N at *
  clear mm
  rintro k e w' ⟨i, m, hki, h0, h2, h11, h12, h13, mm, hi9, hi10⟩
  refine c_sreg rfl ?_
  refine s1 (r_lt h13 h12) ?_
  refine wn ?_
  refine c_seq ?_
  refine c_cond rfl (fun h => (c_skip (t_n ?_))) (fun h => (c_exit (t_x (t_x (b_x (t_n ?_))))))
  · have hi : i < N := by simp at h; omega
    obtain ⟨hm, hv⟩ := hi9 (by omega)
    have hd := drop_get b i (by omega)
    clear h
    refine c_seq ?_
    refine c_block ?_
    refine c_sreg rfl ?_
    refine s1 (r_mvi h13) ?_
    refine s1 (r_ix h11 h13 (by omega) (by omega) (H.some (nth_u8s b i (by omega)))) ?_
    refine s1 (r_ldc rfl (mm.ro H) (nth_u8s b i (by omega))) ?_
    refine s1 (r_asi rfl) ?_
    refine s1 (r_asi rfl) ?_
    refine wn ?_
    generalize b.getD i 0 = x at *
    have hx := x.toNat_lt
    refine c_sreg rfl ?_
    refine s1 (r_mvi h2) ?_
    refine s1 (r_mvi rfl) ?_
    refine s1 (r_bnot rfl rfl (u8_clear x)) ?_
    refine s1 (r_cv rfl (wu64 (by omega) (by omega))) ?_
    refine s1 (r_mvi rfl) ?_
    refine s1 (r_mul rfl rfl (wi (by omega) (by omega))) ?_
    refine s1 (r_shl rfl rfl (by omega) (shl7 _ i (by omega))) ?_
    refine s1 (r_bor rfl rfl (or_shift m (x.toNat % 128) i hm (by omega))) ?_
    refine s1 (r_asi rfl) ?_
    refine wn ?_
    refine c_seq ?_
    refine c_sreg rfl ?_
    refine s1 (r_mvi rfl) ?_
    refine s1 (r_band rfl rfl rfl) ?_
    refine s1 (r_ne rfl rfl) ?_
    refine wn ?_
    refine c_cond rfl (fun h => (c_exit (t_x (b_x (t_n ?_))))) (fun h => (c_skip (t_n ?_)))
    · have hx2 : 128 ≤ x.toNat := (u8_top x).1 (by simpa using h)
      refine c_region rfl ?_
      refine s1 (r_add h13 rfl (wi (by omega) (by omega))) ?_
      refine s1 (r_mvi rfl) ?_
      refine wn (t_n ?_)
      refine ⟨k - 1, by omega, i + 1, _, by omega, h0, rfl, h11, h12, rfl, mm, ?_, ?_⟩
      · intro hi1
        have hp : 128 ^ i * 128 = 128 ^ (i + 1) := (Nat.pow_succ ..).symm
        have hp64 : 128 ^ (i + 1) ≤ 128 ^ 9 := Nat.pow_le_pow_right (by decide) hi1
        have hlt : x.toNat % 128 * 128 ^ i < 2 ^ 64 := by
          have : x.toNat % 128 * 128 ^ i ≤ 127 * 128 ^ i := Nat.mul_le_mul_right _ (by omega)
          omega
        rw [Nat.mod_eq_of_lt hlt]
        have h127 : x.toNat % 128 * 128 ^ i ≤ 127 * 128 ^ i := Nat.mul_le_mul_right _ (by omega)
        refine ⟨by omega, ?_⟩
        rw [← hv, hd]
        simp only [vgo]
        rw [if_neg (by omega), if_pos hx2]
      · intro hi1
        have : i = 9 := by omega
        subst this
        rw [← hv, hd]
        simp only [vgo]
        rw [if_neg (by omega), if_pos hx2]
        exact vgo10 _ _
    have hx2 : ¬ 128 ≤ x.toNat := fun hh => absurd ((u8_top x).2 hh) (by simpa using h)
    clear h
    refine c_seq ?_
    refine c_sreg rfl ?_
    refine s1 (r_mvi rfl) ?_
    refine s1 (r_eq rfl rfl) ?_
    refine s1 (r_mvb rfl) ?_
    refine sT rfl rfl (fun h => r_mvi rfl) ?_
    refine sT rfl rfl (fun h => r_gt (sel_t h :) rfl) ?_
    refine s1 (r_and rfl rfl) ?_
    refine s1 (r_mvb rfl) ?_
    refine sF rfl rfl (fun h => r_mvi rfl) ?_
    refine sF rfl rfl (fun h => r_eq (sel_t h :) rfl) ?_
    refine sF rfl rfl (fun h => r_mvb (sel_t h :)) ?_
    refine sTs rfl rfl (fun h => r_mvi rfl) ?_
    refine sTs rfl rfl (fun h => r_gt (sel_t h :) rfl) ?_
    refine sF rfl rfl (fun h => r_and (sel_t h :) (sel_and h :)) ?_
    refine s1 (r_or rfl rfl) ?_
    refine wn ?_
    have hv2 : vgo (b.drop i) i m = if (x.toNat = 0 ∧ 0 < i) ∨ (i = 9 ∧ 1 < x.toNat) then (0, 0, 3) else (m + x.toNat * 128 ^ i, i + 1, 0) := by
      rw [hd]
      simp only [vgo]
      rw [if_neg (by omega), if_neg hx2]
    rw [hv] at hv2
    refine c_cond rfl (fun h => ?_) (fun h => (c_skip (t_n ?_)))
    · have hq : (x.toNat = 0 ∧ 0 < i) ∨ (i = 9 ∧ 1 < x.toNat) := by
        simp at h
        omega
      rw [if_pos hq] at hv2
      refine c_sreg rfl ?_
      refine s1 (r_asi rfl) ?_
      refine s1 (r_asi rfl) ?_
      refine s1 (r_asi rfl) ?_
      refine wn ?_
      rw [hv2]
      exact c_ret (ret3 rfl rfl rfl rfl ⟨rfl, mm.chg⟩)
    have hq : ¬ ((x.toNat = 0 ∧ 0 < i) ∨ (i = 9 ∧ 1 < x.toNat)) := by
      simp at h
      omega
    rw [if_neg hq] at hv2
    have hlt : x.toNat % 128 * 128 ^ i % 2 ^ 64 = x.toNat * 128 ^ i := by
      rw [Nat.mod_eq_of_lt (show x.toNat < 128 by omega)]
      refine Nat.mod_eq_of_lt ?_
      by_cases h9 : i = 9
      · have : x.toNat * 128 ^ i ≤ 1 * 128 ^ i := Nat.mul_le_mul_right _ (by omega)
        rw [h9] at this ⊢
        omega
      · have h1 : x.toNat * 128 ^ i ≤ 127 * 128 ^ i := Nat.mul_le_mul_right _ (by omega)
        have h2 : 128 ^ i ≤ 128 ^ 8 := Nat.pow_le_pow_right (by decide) (by omega)
        omega
    refine c_sreg rfl ?_
    refine s1 (r_mvi rfl) ?_
    refine s1 (r_mvi rfl) ?_
    refine s1 (r_add rfl rfl (wi (by omega) (by omega))) ?_
    refine s1 (r_asi rfl) ?_
    refine s1 (r_asi rfl) ?_
    refine s1 (r_asi rfl) ?_
    refine wn ?_
    rw [hv2]
    refine c_ret (ret3 rfl rfl rfl rfl ⟨?_, mm.chg⟩)
    rw [← hlt]
    rfl
  have hi : i = N := by simp at h; omega
  clear h
  refine c_seq ?_
  refine c_sreg rfl ?_
  refine s1 (r_mvs h0) ?_
  refine s1 (r_len rfl) ?_
  refine s1 (r_ge rfl rfl) ?_
  refine wn ?_
  refine c_cond rfl (fun h => ?_) (fun h => (c_skip (t_n ?_)))
  · have hl : 10 ≤ b.length := by simp at h; omega
    rw [hi10 (by omega)]
    refine c_sreg rfl ?_
    refine s1 (r_asi rfl) ?_
    refine s1 (r_asi rfl) ?_
    refine s1 (r_asi rfl) ?_
    refine wn ?_
    exact c_ret (ret3 rfl rfl rfl rfl ⟨rfl, mm.chg⟩)
  have hl : ¬ 10 ≤ b.length := by simp at h; omega
  have hv : vtake b = (0, 0, 2) := by
    rw [← (hi9 (by omega)).2, List.drop_of_length_le (by omega)]
    simp only [vgo]
    rw [if_neg (by omega)]
  rw [hv]
  refine c_sreg rfl ?_
  refine s1 (r_asi rfl) ?_
  refine s1 (r_asi rfl) ?_
  refine s1 (r_asi rfl) ?_
  refine wn ?_
  exact c_ret (ret3 rfl rfl rfl rfl ⟨rfl, mm.chg⟩)
end Go.Proofs.Ytbcpabfemejlgaa
/- shelf.Shelf's methods: walks. -/
namespace Go.Proofs.Ytbcpabfemejlgaa
open K
set_option maxRecDepth 100000
set_option maxHeartbeats 4000000

def shB (W : Int) (s : Sh) (a : Option Addr) (c : Nat) : List Value := [.int .i64 W, .int .i64 s.base, .slice a s.l.length c]
def shI (W : Int) (b : Nat) (a : Option Addr) (c : Nat) (s : Sh) : It := listI [bk b (shB W s a c) 122, own 67 12 a s.l.length c (evsC s.l)]

theorem c_shLen (W : Int) (s : Sh) (b : Nat) (a : Option Addr) (c : Nat) (h0 : 0 ≤ s.base) (hlen : s.len ≤ 1048576) (w : World) (hb : w.heap[b]? = some (.cells (shB W s a c).toArray 122 (0, 0))) :
    Cl Try.prog 41 #[.pointer (some ⟨b, 0, none⟩)] w (fun r w' => r = .int .i64 s.len ∧ Chg No w w') := by
  have hlt := (Array.getElem?_eq_some_iff.1 hb).1
  have hB : ∀ {w' : World} {L : List It}, Mem w No w' L → w'.heap[b]? = some (.cells (shB W s a c).toArray 122 (0, 0)) := fun m => (m.chg.same b hlt (fun h => h)).trans hb
  have hl : s.len = s.base + ((s.l.length : Nat) : Int) := rfl
  refine f_enter (args := [_]) Try.func41 rfl rfl ?_
  have mm := Mem.nil No w
  refine c_sreg rfl ?_
  refine s1 (r_asi rfl) ?_
  refine wn ?_
  refine c_sdraw2 mixed [(0, some 0), (1, some 0), (2, some 0), (4, some 0), (5, some 0), (6, some 0), (3, some 2), (7, some 2), (8, some 2), (9, some 0), (10, some 0)] [0, 0, 0, 0, 0, 0, 0, 2, 2, 0, 0] (Sof mm) (Sof mm) (fun _ h => h) (by kernel_rfl) rfl rfl (by kernel_rfl) (fun w2 hc => ?_)
  have mm := mm.frame hc
  refine q01 rfl (fun w => r_mvp rfl) ?_
  refine q01 rfl (fun w => r_nil rfl) ?_
  refine q01 rfl (fun w => r_fa rfl) ?_
  refine q01 rfl (fun w => r_mvp rfl) ?_
  refine q01 rfl (fun w => r_nil rfl) ?_
  refine q01 rfl (fun w => r_fa rfl) ?_
  refine qA1 rfl (fun w m => r_ld rfl ((hB) m) rfl) mm ?_
  refine qA1 rfl (fun w m => r_ld rfl ((hB) m) rfl) mm ?_
  refine qA1 rfl (fun w m => r_len rfl) mm ?_
  refine q01 rfl (fun w => r_add rfl rfl (wi (n := s.base + ((s.l.length : Nat) : Int)) (by omega) (by omega))) ?_
  refine q01 rfl (fun w => r_asi rfl) ?_
  refine qn ?_
  exact c_ret (ret1 rfl rfl ⟨rfl, mm.chg⟩)
theorem c_shBase (W : Int) (s : Sh) (b : Nat) (a : Option Addr) (c : Nat) (w : World) (hb : w.heap[b]? = some (.cells (shB W s a c).toArray 122 (0, 0))) :
    Cl Try.prog 40 #[.pointer (some ⟨b, 0, none⟩)] w (fun r w' => r = .int .i64 s.base ∧ Chg No w w') := by
  have hlt := (Array.getElem?_eq_some_iff.1 hb).1
  have hB : ∀ {w' : World} {L : List It}, Mem w No w' L → w'.heap[b]? = some (.cells (shB W s a c).toArray 122 (0, 0)) := fun m => (m.chg.same b hlt (fun h => h)).trans hb
  refine f_enter (args := [_]) Try.func40 rfl rfl ?_
  have mm := Mem.nil No w
  refine c_sreg rfl ?_
  refine s1 (r_asi rfl) ?_
  refine wn ?_
  refine c_sreg rfl ?_
  refine s1 (r_mvp rfl) ?_
  refine s1 (r_nil rfl) ?_
  refine s1 (r_fa rfl) ?_
  refine s1 (r_ld rfl ((hB) mm) rfl) ?_
  refine s1 (r_asi rfl) ?_
  refine wn ?_
  exact c_ret (ret1 rfl rfl ⟨rfl, mm.chg⟩)
theorem c_shNew (W : Int) (w : World) : Cl Try.prog 39 #[.int .i64 W] w (fun r w' => ∃ b, r = .pointer (some ⟨b, 0, none⟩) ∧ Chg No w w' ∧ New w w' (shI W b none 0 sh0)) := by
  refine f_enter (args := [_]) Try.func39 rfl rfl ?_
  have mm := Mem.nil No w
  refine c_sreg rfl ?_
  refine s1 (r_asp rfl) ?_
  refine wn ?_
  refine c_sreg rfl ?_
  refine s1 (r_mvi rfl) ?_
  refine s1 (r_bd (bi rfl bN) rfl) ?_
  refine so (o_bxa mm rfl fun b2 w2 mm => ?_)
  refine s1 (r_asp rfl) ?_
  refine wn ?_
  have mm : Mem w No _ [bk b2 (shB W sh0 none 0) 122] := mm
  have mm : Mem w No _ [shI W b2 none 0 sh0] := (mm.nilrow (T := 67) (sz := 12)).close
  exact c_ret (ret1 rfl rfl ⟨b2, rfl, mm.chg, mm.isNew 0 rfl⟩)
/-- What a closure of one captured number says: is an event's number above it. -/
theorem c_shP1 (x : Ev) (n : Int) (b : Nat) (w : World) (hb : w.heap[b]? = some (.cells [Value.int .i64 n].toArray 3 (0, 0))) :
    Cl Try.prog 89 #[.agg (evC x).toArray, .pointer (some ⟨b, 0, none⟩)] w (fun r w' => r = .bool (decide (n < x.n)) ∧ Chg No w w') := by
  have hlt := (Array.getElem?_eq_some_iff.1 hb).1
  have hB : ∀ {w' : World} {L : List It}, Mem w No w' L → w'.heap[b]? = some (.cells [Value.int .i64 n].toArray 3 (0, 0)) := fun m => (m.chg.same b hlt (fun h => h)).trans hb
  refine f_enter (args := [_, _]) Try.func89 rfl rfl ?_
  have mm := Mem.nil No w
  refine c_sreg rfl ?_
  refine so (o_bxa mm rfl fun b2 w2 mm => ?_)
  refine s1 (r_asb rfl) ?_
  refine wn ?_
  have mm : Mem w No _ [bk b2 (evC x) 67] := mm
  refine c_sreg rfl ?_
  refine s1 (r_fa rfl) ?_
  refine s1 (r_ld rfl (mm.b 0 rfl) rfl) ?_
  refine s1 (r_ld rfl ((hB) mm) rfl) ?_
  refine s1 (r_gt rfl rfl) ?_
  refine s1 (r_asb rfl) ?_
  refine wn ?_
  exact c_ret (ret1 rfl rfl ⟨rfl, mm.chg⟩)
theorem c_shF1 (x : Ev) (n : Int) (b : Nat) (w : World) (hb : w.heap[b]? = some (.cells [Value.int .i64 n].toArray 3 (0, 0))) :
    Cl Try.prog 96 #[.agg (evC x).toArray, .pointer (some ⟨b, 0, none⟩)] w (fun r w' => r = .bool (decide (n < x.n)) ∧ Chg No w w') := by
  have hlt := (Array.getElem?_eq_some_iff.1 hb).1
  have hB : ∀ {w' : World} {L : List It}, Mem w No w' L → w'.heap[b]? = some (.cells [Value.int .i64 n].toArray 3 (0, 0)) := fun m => (m.chg.same b hlt (fun h => h)).trans hb
  refine f_enter (args := [_, _]) Try.func96 rfl rfl ?_
  have mm := Mem.nil No w
  refine c_sreg rfl ?_
  refine so (o_bxa mm rfl fun b2 w2 mm => ?_)
  refine s1 (r_asb rfl) ?_
  refine wn ?_
  have mm : Mem w No _ [bk b2 (evC x) 67] := mm
  refine c_sreg rfl ?_
  refine s1 (r_fa rfl) ?_
  refine s1 (r_ld rfl (mm.b 0 rfl) rfl) ?_
  refine s1 (r_ld rfl ((hB) mm) rfl) ?_
  refine s1 (r_gt rfl rfl) ?_
  refine s1 (r_asb rfl) ?_
  refine wn ?_
  exact c_ret (ret1 rfl rfl ⟨rfl, mm.chg⟩)
end Go.Proofs.Ytbcpabfemejlgaa
