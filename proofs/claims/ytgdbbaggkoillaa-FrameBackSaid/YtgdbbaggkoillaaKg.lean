/- The walk's own small logic, sixth part: more operations, small words. (Printed by gen/mkg.py.) -/
import Derived.Test.YtgdbbaggkoillaaKe
import Derived.Laws.BytesString
namespace Go.Proofs.Ytgdbbaggkoillaa
namespace K

theorem wi {n : Int} (h : -9223372036854775808 ≤ n) (h' : n ≤ 9223372036854775807) : IntKind.i64.wrap n = n :=
  IntWalk.i64_in n (by omega)
theorem wu8 {n : Int} (h : 0 ≤ n) (h' : n ≤ 255) : IntKind.u8.wrap n = n := by
  simp only [IntKind.wrap, IntKind.bits, IntKind.signed]; simp; omega
theorem wu16 {n : Int} (h : 0 ≤ n) (h' : n ≤ 65535) : IntKind.u16.wrap n = n := by
  simp only [IntKind.wrap, IntKind.bits, IntKind.signed]; simp; omega
theorem wu32 {n : Int} (h : 0 ≤ n) (h' : n ≤ 4294967295) : IntKind.u32.wrap n = n := by
  simp only [IntKind.wrap, IntKind.bits, IntKind.signed]; simp; omega
theorem wu64 {n : Int} (h : 0 ≤ n) (h' : n ≤ 18446744073709551615) : IntKind.u64.wrap n = n := by
  simp only [IntKind.wrap, IntKind.bits, IntKind.signed]; simp; omega

theorem wu64n {x : Int} (h : 0 ≤ x) (h' : x ≤ 9223372036854775807) : IntKind.u64.wrap x = ((x.toNat : Nat) : Int) := by
  rw [wu64 h (by omega)]; omega
@[reducible] def Sof {w0 w : World} {F0 : Nat → Prop} {L : List It} (_ : Mem w0 F0 w L) : World → Prop := fun w' => Mem w0 F0 w' L

section
variable {P : Program} {e : Env} {w : World} {d : Option Nat} {ty : Nat} {pos : String} {af : Array Edge} {g : Option (Nat × Bool)} {K : Value → World → Prop}
variable {w0 : World} {F0 : Nat → Prop} {L : List It}

theorem src_own {sz t el n c : Nat} {a : Option Addr} {news : List Value} [h : TSl P t el] {by_ : Nat} {z : List Value} [he : El P el sz by_ z] (m : Mem w0 F0 w L) (k : Nat) (hk : nth L k = some (own el sz a n c news)) (h1 : ones news = true) : Src P sz t (.slice a n c) n news w := by
  obtain ⟨_, _, _, _, _, _, _, _, h0⟩ := he.h
  exact src_cells (m.c k hk) (own_len (m.o k hk)) h1 h0
theorem r_min2 {x y : Operand} {t t' : Nat} {k : IntKind} {a b : Int} (hx : ev e x = .int k a) (hy : ev e y = .int k b) : (execOp (ev e) ⟨d, .call ⟨.builtin .min, #[x, y], #[t, t']⟩, ty, pos, af, g⟩).run P w = .ok (.value (.int k (min a b))) w := by
  have e1 : (#[x, y] : Array Operand).map (ev e) = #[.int k a, .int k b] := by simp [hx, hy]
  have e2 : (if b < a then b else a) = min a b := by split <;> omega
  rw [x_builtin, e1]
  unfold builtin
  simp only [Builtin.min_, List.foldlM_cons, List.foldlM_nil, Builtin.min2, e2]
  rfl
theorem r_max2 {x y : Operand} {t t' : Nat} {k : IntKind} {a b : Int} (hx : ev e x = .int k a) (hy : ev e y = .int k b) : (execOp (ev e) ⟨d, .call ⟨.builtin .max, #[x, y], #[t, t']⟩, ty, pos, af, g⟩).run P w = .ok (.value (.int k (max a b))) w := by
  have e1 : (#[x, y] : Array Operand).map (ev e) = #[.int k a, .int k b] := by simp [hx, hy]
  have e2 : (if a < b then b else a) = max a b := by split <;> omega
  rw [x_builtin, e1]
  unfold builtin
  simp only [Builtin.max_, List.foldlM_cons, List.foldlM_nil, Builtin.max2, gt_iff_lt, e2]
  rfl
/-- A slice of bytes, made a text. -/
theorem r_b2s {x : Operand} {src dst el n c : Nat} {a : Option Addr} {bs : List UInt8} [hs : TSl P src el] [he : TInt P el .u8] [hd : TStr P dst] (hx : ev e x = .slice a n c) (hc : Cells w a (u8s bs)) (hn : bs.length = n) :
    (execOp (ev e) ⟨d, .convert src dst x, ty, pos, af, g⟩).run P w = .ok (.value (str bs)) w := by
  subst hn
  have h1 := run_convert_bytes_string (P := P) w src dst el a bs.length c hs.h he.h hd.h
  have h2 : (Conv.bytesToString (.slice a bs.length c)).run P w = .ok (str bs) w := by
    cases a with
    | none =>
      have : bs = [] := by
        cases bs with
        | nil => rfl
        | cons b l => obtain ⟨_, h, _⟩ := hc 0 (u8 b) rfl; cases h
      subst this
      rfl
    | some ad =>
      have h3 := run_bytesToString (P := P) w ad bs.length c (bs.map fun b => (b.toNat : Int)) (by
        have := run_loadCells_list (P := P) w ad (u8s bs) (fun j v hv => by
          obtain ⟨ad', h1, h2⟩ := hc j v (by rw [nth_eq]; exact hv)
          injection h1 with h1; subst h1; exact h2)
        rw [u8s_length] at this
        rw [this]
        simp [u8s, u8])
      rw [h3]
      congr 2
      have key : ∀ (l : List UInt8) (s : ByteArray), (l.map fun b => (b.toNat : Int)).foldl (fun r n => r.push (UInt8.ofNat n.toNat)) s = ⟨(s.data.toList ++ l).toArray⟩ := by
        intro l
        induction l with
        | nil => intro s; simp
        | cons b l ih => intro s; simp only [List.map_cons, List.foldl_cons, ih]; simp [ByteArray.push]
      rw [key]
      simp [str]
  simp only [execOp, hx, Sem.run_bind, h1, h2, Result.andThen_ok, Sem.run_pure]

/-! structs and arrays built of parts -/
def fillL (pl : Nat → Option (Nat × Nat)) : List Value → List (Nat × Value) → Option (List Value)
  | cells, [] => some cells
  | cells, (i, v) :: rest =>
    match pl i with
    | none => none
    | some (off, size) => bif Nat.beq v.cells.toList.length size && Nat.ble (off + size) cells.length then fillL pl (spl cells off v.cells.toList) rest else none
class Bd (P : Program) (t : Nat) (z : outParam (List Value)) (pl : outParam (Nat → Option (Nat × Nat))) : Prop where
  h : ∀ parts cs, fillL pl z parts = some cs → P.built t parts = some cs.toArray
theorem foldl_splice : ∀ (vs : List Value) (cells : Array Value) (off k : Nat), off + k + vs.length ≤ cells.size →
    (vs.zipIdx k).foldl (fun cs (x : Value × Nat) => cs.setIfInBounds (off + x.2) x.1) cells = (splice cells.toList (off + k) vs).toArray := by
  intro vs
  induction vs with
  | nil => intro cells off k h; simp [splice]
  | cons v vs ih =>
    intro cells off k h
    simp only [List.length_cons] at h
    simp only [List.zipIdx_cons, List.foldl_cons]
    rw [ih _ off (k + 1) (by simp; omega)]
    have := list_seg_step cells.toList (off + k) v vs (by simp; omega)
    simp only [splice, Array.toList_setIfInBounds, List.length_cons]
    rw [show off + (k + 1) = off + k + 1 from by omega, this]
theorem fill_eq {pl : Nat → Option (Nat × Nat)} : ∀ (parts : List (Nat × Value)) (cells cs : List Value), fillL pl cells parts = some cs → Instr.fill pl cells.toArray parts = some cs.toArray := by
  intro parts
  induction parts with
  | nil => intro cells cs h; simp only [fillL, Option.some.injEq] at h; subst h; rfl
  | cons p rest ih =>
    obtain ⟨i, v⟩ := p
    intro cells cs h
    simp only [fillL] at h
    unfold Instr.fill
    cases hp : pl i with
    | none => rw [hp] at h; cases h
    | some q =>
      obtain ⟨off, size⟩ := q
      rw [hp] at h
      simp only at h ⊢
      cases hb : (Nat.beq v.cells.toList.length size && Nat.ble (off + size) cells.length) with
      | false => rw [hb] at h; cases h
      | true =>
        rw [hb] at h
        simp only [cond_true] at h
        simp only [Bool.and_eq_true] at hb
        have h1 := Nat.eq_of_beq_eq_true hb.1
        have h2 := Nat.le_of_ble_eq_true hb.2
        simp only [Array.length_toList] at h1
        rw [spl_eq _ _ _ (by simp; omega)] at h
        have h3 : ¬ (v.cells.size ≠ size) := by omega
        have h4 : ¬ (cells.toArray.size < off + v.cells.size) := by simp; omega
        rw [if_neg (by simp [h1]; omega)]
        have := foldl_splice v.cells.toList cells.toArray off 0 (by simp; omega)
        simp only [Nat.add_zero] at this
        have e1 : (v.cells.zipIdx.foldl (fun cs (x : Value × Nat) => cs.setIfInBounds (off + x.2) x.1) cells.toArray) = (splice cells off v.cells.toList).toArray := by
          rw [← this]
          generalize v.cells = A
          cases A with | mk l
          simp
        have e2 := ih _ _ h
        rw [← e1] at e2
        exact e2
theorem bd_struct {t : Nat} {fs : Array Field} {z : List Value} {pl : List (Nat × Nat)} (hz : (P.info? t).map (fun i => i.zero.map (·.cells.toList)) = some (some z)) (hu : P.underlying t = some (.struct fs))
    (hp : fs.toList.mapM (fun f => (P.info? f.type).map fun i => (f.offset, i.size)) = some pl) : Bd P t z (nth pl) := by
  refine ⟨fun parts cs h => ?_⟩
  unfold Program.built
  cases hi : P.info? t with
  | none => rw [hi] at hz; cases hz
  | some it =>
    rw [hi] at hz
    simp only [Option.map_some, Option.some.injEq] at hz
    rw [hu]
    cases hzz : it.zero with
    | none => rw [hzz] at hz; cases hz
    | some zv =>
      rw [hzz] at hz
      simp only [Option.map_some, Option.some.injEq] at hz
      simp only [hp, hzz]
      have h1 := fill_eq parts z cs h
      have h2 : zv.cells = z.toArray := by rw [← hz]
      rw [h2, ← h1]
      congr 1
      funext i
      rw [List.getElem?_toArray, nth_eq]
theorem bd_array {t n el sz : Nat} {z : List Value} (hz : (P.info? t).map (fun i => i.zero.map (·.cells.toList)) = some (some z)) (hu : P.underlying t = some (.array n el))
    (hp : (P.info? el).map (·.size) = some sz) : Bd P t z (fun i => some (i * sz, sz)) := by
  refine ⟨fun parts cs h => ?_⟩
  unfold Program.built
  cases hi : P.info? t with
  | none => rw [hi] at hz; cases hz
  | some it =>
    rw [hi] at hz
    simp only [Option.map_some, Option.some.injEq] at hz
    rw [hu]
    cases hzz : it.zero with
    | none => rw [hzz] at hz; cases hz
    | some zv =>
      rw [hzz] at hz
      simp only [Option.map_some, Option.some.injEq] at hz
      cases he : P.info? el with
      | none => rw [he] at hp; cases hp
      | some ie =>
        rw [he] at hp
        simp only [Option.map_some, Option.some.injEq] at hp
        subst hp
        have h2 : zv.cells = z.toArray := by rw [← hz]
        have h3 := fill_eq parts z cs h
        rw [← h2] at h3
        simp only [hzz, he, h3]
inductive BdV (e : Env) : List (Nat × Operand) → List (Nat × Value) → Prop
  | nil : BdV e [] []
  | cons {i : Nat} {x : Operand} {v : Value} {l : List (Nat × Operand)} {vs : List (Nat × Value)} (h : ev e x = v) (t : BdV e l vs) : BdV e ((i, x) :: l) ((i, v) :: vs)
theorem BdV.eq {e : Env} {l : List (Nat × Operand)} {vs : List (Nat × Value)} (h : BdV e l vs) : l.map (fun p => (p.1, ev e p.2)) = vs := by
  induction h with
  | nil => rfl
  | cons h _ ih => subst h; rw [List.map_cons, ih]
section
variable {i : Nat} {x : Operand} {l : List (Nat × Operand)} {vs : List (Nat × Value)}
theorem bN : BdV e [] [] := .nil
theorem bv {v : Value} (h : ev e x = v) (t : BdV e l vs) : BdV e ((i, x) :: l) ((i, v) :: vs) := .cons h t
theorem bi {k : IntKind} {n : Int} (h : ev e x = .int k n) (t : BdV e l vs) : BdV e ((i, x) :: l) ((i, .int k n) :: vs) := .cons h t
theorem bt {s : List UInt8} (h : ev e x = str s) (t : BdV e l vs) : BdV e ((i, x) :: l) ((i, str s) :: vs) := .cons h t
theorem bb {b : Bool} (h : ev e x = .bool b) (t : BdV e l vs) : BdV e ((i, x) :: l) ((i, .bool b) :: vs) := .cons h t
theorem bs {a : Option Addr} {n c : Nat} (h : ev e x = .slice a n c) (t : BdV e l vs) : BdV e ((i, x) :: l) ((i, .slice a n c) :: vs) := .cons h t
theorem bp {a : Option Addr} (h : ev e x = .pointer a) (t : BdV e l vs) : BdV e ((i, x) :: l) ((i, .pointer a) :: vs) := .cons h t
theorem bg {cs : List Value} (h : ev e x = .agg cs.toArray) (t : BdV e l vs) : BdV e ((i, x) :: l) ((i, .agg cs.toArray) :: vs) := .cons h t
end
theorem r_bd {t : Nat} {parts : Array (Nat × Operand)} {vs : List (Nat × Value)} {cs z : List Value} {pl : Nat → Option (Nat × Nat)} [h : Bd P t z pl] (hv' : BdV e parts.toList vs) (hf : fillL pl z vs = some cs) :
    (execOp (ev e) ⟨d, .build t parts, ty, pos, af, g⟩).run P w = .ok (.value (.agg cs.toArray)) w := by
  have hv := hv'.eq
  have h1 : (parts.map fun (i, x) => (i, ev e x)).toList = vs := by rw [← hv]; simp
  have h2 := run_build (P := P) w t (parts.map fun (i, x) => (i, ev e x)) cs.toArray (by rw [h1]; exact h.h _ _ hf)
  simp only [execOp, Sem.run_bind, h2, Result.andThen_ok, Sem.run_pure]

theorem o_bi1 {t el by_ : Nat} {x0 : Operand} {k0 : IntKind} {n0 : Int} {zv : Value} [ht : TSl P t el] [he : El P el 1 by_ [zv]] (m : Mem w0 F0 w L) (h0 : ev e x0 = .int k0 n0)
    (hK : ∀ a c w', Mem w0 F0 w' (L ++ [own el 1 a 1 c [.int k0 n0]]) → K (.slice a 1 c) w') : OwpE P ⟨d, .buildSlice t 1 #[(0, x0)], ty, pos, af, g⟩ e w K := o_bs1 m h0 rfl hK

theorem o_bi2 {t el by_ : Nat} {x0 x1 : Operand} {k0 k1 : IntKind} {n0 n1 : Int} {zv : Value} [ht : TSl P t el] [he : El P el 1 by_ [zv]] (m : Mem w0 F0 w L) (h0 : ev e x0 = .int k0 n0) (h1 : ev e x1 = .int k1 n1)
    (hK : ∀ a c w', Mem w0 F0 w' (L ++ [own el 1 a 2 c [.int k0 n0, .int k1 n1]]) → K (.slice a 2 c) w') : OwpE P ⟨d, .buildSlice t 2 #[(0, x0), (1, x1)], ty, pos, af, g⟩ e w K := o_bs2 m h0 rfl h1 rfl hK

theorem o_bi3 {t el by_ : Nat} {x0 x1 x2 : Operand} {k0 k1 k2 : IntKind} {n0 n1 n2 : Int} {zv : Value} [ht : TSl P t el] [he : El P el 1 by_ [zv]] (m : Mem w0 F0 w L) (h0 : ev e x0 = .int k0 n0) (h1 : ev e x1 = .int k1 n1) (h2 : ev e x2 = .int k2 n2)
    (hK : ∀ a c w', Mem w0 F0 w' (L ++ [own el 1 a 3 c [.int k0 n0, .int k1 n1, .int k2 n2]]) → K (.slice a 3 c) w') : OwpE P ⟨d, .buildSlice t 3 #[(0, x0), (1, x1), (2, x2)], ty, pos, af, g⟩ e w K := o_bs3 m h0 rfl h1 rfl h2 rfl hK

theorem o_bi4 {t el by_ : Nat} {x0 x1 x2 x3 : Operand} {k0 k1 k2 k3 : IntKind} {n0 n1 n2 n3 : Int} {zv : Value} [ht : TSl P t el] [he : El P el 1 by_ [zv]] (m : Mem w0 F0 w L) (h0 : ev e x0 = .int k0 n0) (h1 : ev e x1 = .int k1 n1) (h2 : ev e x2 = .int k2 n2) (h3 : ev e x3 = .int k3 n3)
    (hK : ∀ a c w', Mem w0 F0 w' (L ++ [own el 1 a 4 c [.int k0 n0, .int k1 n1, .int k2 n2, .int k3 n3]]) → K (.slice a 4 c) w') : OwpE P ⟨d, .buildSlice t 4 #[(0, x0), (1, x1), (2, x2), (3, x3)], ty, pos, af, g⟩ e w K := o_bs4 m h0 rfl h1 rfl h2 rfl h3 rfl hK

theorem o_bi5 {t el by_ : Nat} {x0 x1 x2 x3 x4 : Operand} {k0 k1 k2 k3 k4 : IntKind} {n0 n1 n2 n3 n4 : Int} {zv : Value} [ht : TSl P t el] [he : El P el 1 by_ [zv]] (m : Mem w0 F0 w L) (h0 : ev e x0 = .int k0 n0) (h1 : ev e x1 = .int k1 n1) (h2 : ev e x2 = .int k2 n2) (h3 : ev e x3 = .int k3 n3) (h4 : ev e x4 = .int k4 n4)
    (hK : ∀ a c w', Mem w0 F0 w' (L ++ [own el 1 a 5 c [.int k0 n0, .int k1 n1, .int k2 n2, .int k3 n3, .int k4 n4]]) → K (.slice a 5 c) w') : OwpE P ⟨d, .buildSlice t 5 #[(0, x0), (1, x1), (2, x2), (3, x3), (4, x4)], ty, pos, af, g⟩ e w K := o_bs5 m h0 rfl h1 rfl h2 rfl h3 rfl h4 rfl hK

theorem o_bi6 {t el by_ : Nat} {x0 x1 x2 x3 x4 x5 : Operand} {k0 k1 k2 k3 k4 k5 : IntKind} {n0 n1 n2 n3 n4 n5 : Int} {zv : Value} [ht : TSl P t el] [he : El P el 1 by_ [zv]] (m : Mem w0 F0 w L) (h0 : ev e x0 = .int k0 n0) (h1 : ev e x1 = .int k1 n1) (h2 : ev e x2 = .int k2 n2) (h3 : ev e x3 = .int k3 n3) (h4 : ev e x4 = .int k4 n4) (h5 : ev e x5 = .int k5 n5)
    (hK : ∀ a c w', Mem w0 F0 w' (L ++ [own el 1 a 6 c [.int k0 n0, .int k1 n1, .int k2 n2, .int k3 n3, .int k4 n4, .int k5 n5]]) → K (.slice a 6 c) w') : OwpE P ⟨d, .buildSlice t 6 #[(0, x0), (1, x1), (2, x2), (3, x3), (4, x4), (5, x5)], ty, pos, af, g⟩ e w K := o_bs6 m h0 rfl h1 rfl h2 rfl h3 rfl h4 rfl h5 rfl hK

theorem o_bs0 {t el sz by_ : Nat} {zv : List Value} [ht : TSl P t el] [he : El P el sz by_ zv] (m : Mem w0 F0 w L) (hK : ∀ a c w', Mem w0 F0 w' (L ++ [own el sz a 0 c []]) → K (.slice a 0 c) w') : OwpE P ⟨d, .buildSlice t 0 #[], ty, pos, af, g⟩ e w K := by
  obtain ⟨i, zv', hi, hsz, _⟩ := he.h
  unfold OwpE
  simp only [execOp, Instr.buildSlice, Sem.run_bind, run_underlying ht.h, Result.andThen_ok, sizeOf, typeInfo, run_program, hi, Sem.run_pure, hsz]
  simp [Instr.fill, newRow]
  have e1 : (Array.range 0).map (fun _ => (default : Value)) = ([] : List Value).toArray := by simp
  rw [e1]
  exact hK _ _ _ (own_made (n := 0) (cs := []) m (by simp) (by decide))
end

end K
end Go.Proofs.Ytgdbbaggkoillaa
