/- The walk's own small logic, fourth part: operations that read and write memory; calls. (Printed by gen/mkd.py.) -/
import Derived.Test.YtbcpabfemejlgaaM0
namespace Go.Proofs.Ytbcpabfemejlgaa
namespace K

theorem cells_one {v : Value} (h : v.oneCell' = true) : v.cells = #[v] := by cases v <;> first | rfl | cases h
def seg (cs : List Value) (o n : Nat) : List Value := (cs.drop o).take n
def splice (cs : List Value) (o : Nat) (vs : List Value) : List Value := cs.take o ++ vs ++ cs.drop (o + vs.length)
theorem setN_splice : ∀ (cs : List Value) (o : Nat) (v : Value), o < cs.length → setN cs o v = splice cs o [v] := by
  intro cs o v h
  rw [setN_eq, List.set_eq_take_append_cons_drop, if_pos h]
  simp [splice]
theorem splice_length (cs : List Value) (o : Nat) (vs : List Value) (h : o + vs.length ≤ cs.length) : (splice cs o vs).length = cs.length := by
  simp [splice]; omega
def spl : List Value → Nat → List Value → List Value
  | cs, _, [] => cs
  | [], _, _ :: _ => []
  | _ :: cs, 0, v :: vs => v :: spl cs 0 vs
  | x :: cs, o + 1, v :: vs => x :: spl cs o (v :: vs)
theorem spl_eq : ∀ (cs : List Value) (o : Nat) (vs : List Value), o + vs.length ≤ cs.length → spl cs o vs = splice cs o vs
  | cs, o, [], _ => by cases cs <;> simp [spl, splice]
  | [], o, v :: vs, h => by simp at h
  | c :: cs, 0, v :: vs, h => by
    have := spl_eq cs 0 vs (by simp at h ⊢; omega)
    simp only [spl, this]
    simp [splice]
  | x :: cs, o + 1, v :: vs, h => by
    have := spl_eq cs o (v :: vs) (by simp at h ⊢; omega)
    simp only [spl, this]
    simp [splice, show o + 1 + (vs.length + 1) = o + (vs.length + 1) + 1 from by omega]
def ones (vs : List Value) : Bool := vs.all Value.oneCell'
theorem ones_spec {vs : List Value} (h : ones vs = true) : ∀ u ∈ vs, u.oneCell' = true := by simpa [ones] using h
theorem ones_u8s (l : List UInt8) : ones (u8s l) = true := by simp [ones, u8s, u8, Value.oneCell']
theorem ones_append {a b : List Value} (ha : ones a = true) (hb : ones b = true) : ones (a ++ b) = true := by simp [ones] at *; exact ⟨ha, hb⟩

/-- A call that returns, and what is so then. -/
def Cl (P : Program) (f : FuncId) (args : Array Value) (w : World) (Post : Value → World → Prop) : Prop := Calls P f args w (fun r w' => ∃ v, r = .returned v ∧ Post v w')
theorem Cl.mono {P : Program} {f : FuncId} {args : Array Value} {w : World} {R R' : Value → World → Prop} (h : Cl P f args w R) (hr : ∀ v w', R v w' → R' v w') : Cl P f args w R' :=
  Calls.mono h fun _ _ ⟨v, e, hv⟩ => ⟨v, e, hr _ _ hv⟩

section
variable {P : Program} {e : Env} {w : World} {d : Option Nat} {ty : Nat} {pos : String} {af : Array Edge} {g : Option (Nat × Bool)} {K : Value → World → Prop}
variable {w0 : World} {F0 : Nat → Prop} {L : List It}

theorem x_callFunc {f : Nat} {fn : Func} {args : Array Value} [hf : Fnc P f fn] : (callFunc f args).run P w = .ok (.enter f args) w := by
  unfold callFunc
  simp only [Sem.run_bind, run_program, Result.andThen_ok, hf.h]
  rw [if_neg (by rw [hf.n]; simp), if_neg (by rw [hf.b]; simp)]
  rfl
theorem o_v {o : Oper} {v : Value} {w' : World} (h : (execOp (ev e) o).run P w = .ok (.value v) w') (k : K v w') : OwpE P o e w K := by unfold OwpE; rw [h]; exact k

/-! addresses -/
theorem r_fa {T f b off o ft : Nat} {x : Operand} [hF : Fd P T f o ft] (hx : ev e x = .pointer (some ⟨b, off, none⟩)) : (execOp (ev e) ⟨d, .fieldAddr T x f, ty, pos, af, g⟩).run P w = .ok (.value (.pointer (some ⟨b, off + o, none⟩))) w := by
  obtain ⟨fs, fd, i, hu, hf, ho, ht, hi, hs⟩ := hF.h
  subst ho
  simp only [execOp, hx, Instr.fieldAt, Instr.sureAddr, Sem.run_bind, run_underlying hu, Result.andThen_ok, hf, Sem.run_pure, fieldPlace, sizeOf, typeInfo, run_program, hi, hs, if_false, Addr.add]
  by_cases h0 : fd.offset = 0 <;> simp [h0]
theorem r_fac {T f j o ft : Nat} {x : Operand} {a : Option Addr} [hF : Fd P T f o ft] (hx : ev e x = .pointer (a.map (·.add j))) (ha : a.isSome = true) : (execOp (ev e) ⟨d, .fieldAddr T x f, ty, pos, af, g⟩).run P w = .ok (.value (.pointer (a.map (·.add (j + o))))) w := by
  obtain ⟨fs, fd, i, hu, hf, ho, ht, hi, hs⟩ := hF.h
  subst ho
  obtain ⟨ad, rfl⟩ := Option.isSome_iff_exists.1 ha
  simp only [Option.map_some] at hx ⊢
  simp only [execOp, hx, Instr.fieldAt, Instr.sureAddr, Sem.run_bind, run_underlying hu, Result.andThen_ok, hf, Sem.run_pure, fieldPlace, sizeOf, typeInfo, run_program, hi, hs, if_false, Addr.add_add]
theorem r_ix {t el sz n c by_ : Nat} {x y : Operand} {a : Option Addr} {k : IntKind} {i : Int} {z : List Value} [h : TSl P t el] [he : El P el sz by_ z] (hx : ev e x = .slice a n c) (hy : ev e y = .int k i) (h0 : 0 ≤ i) (h1 : i < n) (ha : a.isSome = true) :
    (execOp (ev e) ⟨d, .indexAddr t x y, ty, pos, af, g⟩).run P w = .ok (.value (.pointer (a.map (·.add (i.toNat * sz))))) w := by
  obtain ⟨inf, zv, hi, hs, _⟩ := he.h
  subst hs
  obtain ⟨ad, rfl⟩ := Option.isSome_iff_exists.1 ha
  simp [execOp, hx, hy, Instr.indexAt, asIntOf, run_underlying h.h, sizeOf, typeInfo, hi, h0, h1]
theorem r_ixa {t el sz n b off by_ : Nat} {x y : Operand} {k : IntKind} {i : Int} {z : List Value} [h : TArr P t n el] [he : El P el sz by_ z] (hx : ev e x = .pointer (some ⟨b, off, none⟩)) (hy : ev e y = .int k i) (h0 : 0 ≤ i) (h1 : i < n) :
    (execOp (ev e) ⟨d, .indexAddr t x y, ty, pos, af, g⟩).run P w = .ok (.value (.pointer (some ⟨b, off + i.toNat * sz, none⟩))) w := by
  obtain ⟨inf, zv, hi, hs, _⟩ := he.h
  subst hs
  simp only [execOp, hx, hy, Instr.indexAt, asIntOf, run_underlying h.h, sizeOf, typeInfo, hi, Sem.run_bind, Sem.run_pure, Result.andThen_ok, Instr.sureAddr, run_program, h0, h1, and_self, if_true, Addr.add]
  by_cases h0 : i.toNat * inf.size = 0 <;> simp [h0]

/-! loads -/
theorem scalar_run {t : Nat} [h : Sc P t] (w : World) : (isAgg t).run P w = .ok false w := by
  obtain ⟨dd, hu, hd⟩ := h.h
  cases dd <;> first | (simp [isAgg, run_underlying hu]; done) | cases hd
theorem agg_run {t n : Nat} [h : Ag P t n] (w : World) : (isAgg t).run P w = .ok true w := by
  obtain ⟨dd, hu, hd⟩ := h.h
  cases dd <;> first | (simp [isAgg, run_underlying hu]; done) | cases hd
theorem size_run {t n : Nat} (h : (P.info? t).map (·.size) = some n) (w : World) : (sizeOf t).run P w = .ok n w := by
  cases hq : P.info? t with
  | none => rw [hq] at h; cases h
  | some i => rw [hq] at h; simp only [Option.map_some, Option.some.injEq] at h; simp [sizeOf, typeInfo, hq, h]
theorem r_ld {t b off T : Nat} {x : Operand} {cs : List Value} {fz : Nat × Nat} {v : Value} [h : Sc P t] (hx : ev e x = .pointer (some ⟨b, off, none⟩)) (hb : w.heap[b]? = some (.cells cs.toArray T fz)) (hv : nth cs off = some v) :
    (execOp (ev e) ⟨d, .load t x, ty, pos, af, g⟩).run P w = .ok (.value v) w := by
  have hc : w.cell? ⟨b, off, none⟩ = some v := by rw [cell_of_row w b off _ _ _ hb, List.getElem?_toArray, ← nth_eq]; exact hv
  simp [execOp, hx, Instr.loadAt, Instr.sureAddr, loadVar, scalar_run, hc]
theorem nth_seg (cs : List Value) (o n j : Nat) (v : Value) (h : nth (seg cs o n) j = some v) : nth cs (o + j) = some v := by
  rw [nth_eq, seg, List.getElem?_take] at h
  split at h
  · rw [List.getElem?_drop] at h; rw [nth_eq]; exact h
  · cases h
theorem seg_length (cs : List Value) (o n : Nat) (h : o + n ≤ cs.length) : (seg cs o n).length = n := by simp [seg]; omega
theorem r_lda {t b off n T : Nat} {x : Operand} {cs : List Value} {fz : Nat × Nat} [h : Ag P t n] (hx : ev e x = .pointer (some ⟨b, off, none⟩)) (hb : w.heap[b]? = some (.cells cs.toArray T fz)) (hl : Nat.ble (off + n) cs.length = true) :
    (execOp (ev e) ⟨d, .load t x, ty, pos, af, g⟩).run P w = .ok (.value (.agg (seg cs off n).toArray)) w := by
  have hl' := Nat.le_of_ble_eq_true hl
  have hr := run_loadCells_list (P := P) w ⟨b, off, none⟩ (seg cs off n) (fun j v hv => by
    have h1 := nth_seg cs off n j v (by rw [nth_eq]; exact hv)
    have h2 : (⟨b, off, none⟩ : Addr).add j = ⟨b, off + j, none⟩ := by unfold Addr.add; split <;> simp_all
    rw [h2, cell_of_row w b (off + j) _ _ _ hb, List.getElem?_toArray, ← nth_eq]; exact h1)
  rw [seg_length cs off n hl'] at hr
  simp [execOp, hx, Instr.loadAt, Instr.sureAddr, loadVar, agg_run, size_run h.s, hr]
theorem r_ldc {t j : Nat} {x : Operand} {a : Option Addr} {cs : List Value} {v : Value} [h : Sc P t] (hx : ev e x = .pointer (a.map (·.add j))) (hc : Cells w a cs) (hv : nth cs j = some v) :
    (execOp (ev e) ⟨d, .load t x, ty, pos, af, g⟩).run P w = .ok (.value v) w := by
  obtain ⟨ad, rfl, h1⟩ := hc j v hv
  simp only [Option.map_some] at hx
  simp [execOp, hx, Instr.loadAt, Instr.sureAddr, loadVar, scalar_run, h1]
theorem r_ldca {t j n : Nat} {x : Operand} {a : Option Addr} {cs : List Value} [h : Ag P t n] (hx : ev e x = .pointer (a.map (·.add j))) (hc : Cells w a cs) (hl : j + n ≤ cs.length) (h0 : 0 < n) :
    (execOp (ev e) ⟨d, .load t x, ty, pos, af, g⟩).run P w = .ok (.value (.agg (seg cs j n).toArray)) w := by
  obtain ⟨ad, rfl, _⟩ := hc j cs[j] (by rw [nth_eq]; exact List.getElem?_eq_getElem (by omega))
  simp only [Option.map_some] at hx
  have hr := run_loadCells_list (P := P) w (ad.add j) (seg cs j n) (fun i v hv => by
    obtain ⟨ad', h1, h2⟩ := hc _ v (nth_seg cs j n i v (by rw [nth_eq]; exact hv))
    injection h1 with h1; subst h1
    rw [Addr.add_add]; exact h2)
  rw [seg_length cs j n hl] at hr
  simp [execOp, hx, Instr.loadAt, Instr.sureAddr, loadVar, agg_run, size_run h.s, hr]
theorem r_ixv {t el n : Nat} {x y : Operand} {k : IntKind} {i : Int} {cs : List Value} {v : Value} [h : TArr P t n el] [hs : Sc P el] (hx : ev e x = .agg cs.toArray) (hy : ev e y = .int k i) (h0 : 0 ≤ i) (h1 : i < n) (hv : nth cs i.toNat = some v) :
    (execOp (ev e) ⟨d, .index t x y, ty, pos, af, g⟩).run P w = .ok (.value v) w := by
  rw [nth_eq] at hv
  simp [execOp, hx, hy, Instr.index, asIntOf, run_underlying h.h, size_run hs.s, h0, h1, part, scalar_run, hv]

/-! stores, new variables -/
theorem chg_setRow {b : Nat} {cs : Array Value} : Chg (fun k => k = b) w (w.setRow b cs) :=
  ⟨rfl, rfl, rfl, by simp, fun k _ hk => setRow_other w b k cs hk⟩
theorem run_store_splice {t b off n T : Nat} {cs vs : List Value} {v : Value} (hs : (P.info? t).map (·.size) = some n) (hb : w.heap[b]? = some (.cells cs.toArray T (0, 0))) (hv : v.cells = vs.toArray) (hn : vs.length = n) (h1 : ∀ u ∈ vs, u.oneCell' = true) (hl : off + n ≤ cs.length) :
    (Instr.storeAt t (.pointer (some ⟨b, off, none⟩)) v).run P w = .ok () (w.setRow b (splice cs off vs).toArray) := by
  have hr := run_storeCells_at P b off T vs 0 cs.toArray w hb (by simpa [hn] using hl) h1
  simp only [Nat.add_zero] at hr
  simp [Instr.storeAt, Instr.sureAddr, storeVar, hv, hn, size_run hs, hr, splice]
theorem o_st {t b off T : Nat} {x y : Operand} {cs : List Value} {v : Value} [h : Sc P t] (m : Mem w0 F0 w L) (k : Nat) (hk : nth L k = some (bk b cs T)) (hx : ev e x = .pointer (some ⟨b, off, none⟩)) (hy : ev e y = v) (h1 : v.oneCell' = true) (hl : Nat.blt off cs.length = true)
    (hK : ∀ w', Mem w0 F0 w' (setN L k (bk b (setN cs off v) T)) → K undef w') : OwpE P ⟨d, .store t x y, ty, pos, af, g⟩ e w K := by
  have hl' : off < cs.length := by rw [Nat.blt_eq] at hl; exact hl
  have hb := m.b k hk
  have hr := run_store_splice (P := P) (w := w) (vs := [v]) h.s hb (cells_one h1) rfl (by intro u hu; simp at hu; subst hu; exact h1) hl'
  unfold OwpE
  simp only [execOp, hx, hy, Sem.run_bind, hr, Result.andThen_ok, Sem.run_pure]
  refine hK _ (m.turn k hk chg_setRow ?_ (fun c hc => .inl hc))
  rw [setN_splice cs off v hl']
  exact setRow_heap w b _ _ _ _ hb
theorem o_sta {t b off T n : Nat} {x y : Operand} {cs vs : List Value} [h : Ag P t n] (m : Mem w0 F0 w L) (k : Nat) (hk : nth L k = some (bk b cs T)) (hx : ev e x = .pointer (some ⟨b, off, none⟩)) (hy : ev e y = .agg vs.toArray) (h1 : ones vs = true) (hn : vs.length = n) (hl : off + n ≤ cs.length)
    (hK : ∀ w', Mem w0 F0 w' (setN L k (bk b (spl cs off vs) T)) → K undef w') : OwpE P ⟨d, .store t x y, ty, pos, af, g⟩ e w K := by
  have hb := m.b k hk
  have hr := run_store_splice (P := P) (w := w) (vs := vs) (v := .agg vs.toArray) h.s hb rfl hn (ones_spec h1) hl
  rw [spl_eq cs off vs (by omega)] at hK
  unfold OwpE
  simp only [execOp, hx, hy, Sem.run_bind, hr, Result.andThen_ok, Sem.run_pure]
  exact hK _ (m.turn k hk chg_setRow (setRow_heap w b _ _ _ _ hb) (fun c hc => .inl hc))
theorem mem_bk {cs : List Value} {T : Nat} (m : Mem w0 F0 w L) : Mem w0 F0 (w.alloc (.cells cs.toArray T)) (L ++ [bk w.heap.size cs T]) :=
  m.add (Chg.alloc No w _) (heap_alloc_new w _) (fun b hb => by cases hb; exact Nat.le_refl _)
theorem o_bx {T : Nat} {x : Operand} {v : Value} (m : Mem w0 F0 w L) (hx : ev e x = v) (h1 : v.oneCell' = true) (hK : ∀ b w', Mem w0 F0 w' (L ++ [bk b [v] T]) → K (.pointer (some ⟨b, 0, none⟩)) w') : OwpE P ⟨d, .box T x, ty, pos, af, g⟩ e w K := by
  unfold OwpE
  simp only [execOp, hx, Instr.box, newVar, newRow, cells_one h1, Sem.run_bind, run_newObj, Result.andThen_ok, Sem.run_pure]
  exact hK _ _ (mem_bk (cs := [v]) m)
theorem o_bxa {T : Nat} {x : Operand} {cs : List Value} (m : Mem w0 F0 w L) (hx : ev e x = .agg cs.toArray) (hK : ∀ b w', Mem w0 F0 w' (L ++ [bk b cs T]) → K (.pointer (some ⟨b, 0, none⟩)) w') : OwpE P ⟨d, .box T x, ty, pos, af, g⟩ e w K := by
  unfold OwpE
  simp only [execOp, hx, Instr.box, newVar, newRow, Value.cells, Sem.run_bind, run_newObj, Result.andThen_ok, Sem.run_pure]
  exact hK _ _ (mem_bk m)
theorem o_al {T sz by_ : Nat} {z : List Value} [h : El P T sz by_ z] (m : Mem w0 F0 w L) (hK : ∀ b w', Mem w0 F0 w' (L ++ [bk b z T]) → K (.pointer (some ⟨b, 0, none⟩)) w') : OwpE P ⟨d, .alloc T, ty, pos, af, g⟩ e w K := by
  obtain ⟨i, zv, hi, _, _, hz, hc, _⟩ := h.h
  unfold OwpE
  simp only [execOp, Instr.alloc, zeroValue, typeInfo, hi, hz, newVar, newRow, hc, Sem.run_bind, run_program, run_newObj, Result.andThen_ok, Sem.run_pure]
  exact hK _ _ (mem_bk m)

/-! slices of one's own -/
theorem own_made {T sz n : Nat} {cs : List Value} (m : Mem w0 F0 w L) (hl : cs.length = n * sz) (hm : n ≤ maxLen) : Mem w0 F0 (w.alloc (.cells cs.toArray T)) (L ++ [own T sz (some ⟨w.heap.size, 0, none⟩) n n cs]) :=
  m.add (Chg.alloc No w _) ⟨hl, .inr ⟨w.heap.size, n, cs.toArray, rfl, Nat.zero_le _, heap_alloc_new w _, Nat.le_refl _, hm, by simpa using hl, by simp [← hl]⟩⟩
    (fun b hb => by simp only [own, Option.map_some, Option.some.injEq] at hb; omega)
theorem Mem.nilrow {T sz : Nat} (m : Mem w0 F0 w L) : Mem w0 F0 w (L ++ [own T sz none 0 0 []]) :=
  m.add (Chg.refl No w) (World.ownsRow_nil w 0 T sz) (fun b hb => by cases hb)
theorem src_cells {sz t el n c : Nat} {a : Option Addr} {news : List Value} [h : TSl P t el] (hc : Cells w a news) (hl : news.length = n * sz) (h1 : ones news = true) (h0 : 0 < sz) : Src P sz t (.slice a n c) n news w := by
  cases a with
  | some ad => exact Src.ofSlice w h.h ad n c news hl (fun j u hu => by
      obtain ⟨ad', h1, h2⟩ := hc j u (by rw [nth_eq]; exact hu)
      injection h1 with h1; subst h1; exact h2) (ones_spec h1)
  | none =>
    have hn : news = [] := by
      cases news with
      | nil => rfl
      | cons v l => obtain ⟨ad, h1, _⟩ := hc 0 v rfl; cases h1
    subst hn
    have : n = 0 := by
      rcases Nat.eq_zero_or_pos n with h' | h'
      · exact h'
      · have := Nat.mul_pos h' h0; simp at hl; omega
    subst this
    exact Src.ofNil w h.h c
theorem src_str {t : Nat} {l : List UInt8} [h : TStr P t] : Src P 1 t (str l) l.length (u8s l) w := by
  have := Src.ofString (P := P) w h.h ⟨l.toArray⟩
  have e1 : byteCells ⟨l.toArray⟩ = u8s l := by simp [byteCells, u8s, u8]
  have e2 : (⟨l.toArray⟩ : ByteArray).size = l.length := by simp [ByteArray.size]
  rw [e1, e2] at this
  exact this
theorem o_ap {t t' el sz by_ n m c : Nat} {x y : Operand} {a : Option Addr} {cs news z : List Value} {v : Value} [ht : TSl P t el] [he : El P el sz by_ z] (mm : Mem w0 F0 w L) (k : Nat) (hk : nth L k = some (own el sz a n c cs)) (hx : ev e x = .slice a n c) (hy : ev e y = v) (hs : Src P sz t' v m news w)
    (hb : (n + m) * by_ ≤ 140737488355328) (hm : n + m ≤ maxLen) (hK : ∀ a' c' w', Mem w0 F0 w' (setN L k (own el sz a' (n + m) c' (cs ++ news))) → K (.slice a' (n + m) c') w') :
    OwpE P ⟨d, .call ⟨.builtin .append, #[x, y], #[t, t']⟩, ty, pos, af, g⟩ e w K := by
  obtain ⟨i, zv, hi, hsz, hby, hz, hzc, hzl, h0⟩ := he.h
  subst hsz; subst hby
  have ho := mm.o k hk
  have hrun : ∀ r w', (Builtin.append_ #[t, t'] ty #[.slice a n c, v]).run P w = .ok r w' → K r w' → OwpE P ⟨d, .call ⟨.builtin .append, #[x, y], #[t, t']⟩, ty, pos, af, g⟩ e w K := by
    intro r w' hr hk
    have e1 : (#[x, y] : Array Operand).map (ev e) = #[.slice a n c, v] := by simp [hx, hy]
    unfold OwpE
    rw [x_builtin, e1]
    unfold builtin
    simp only [Sem.run_bind, hr, Result.andThen_ok, Sem.run_pure]
    exact hk
  have hlen : (cs ++ news).length = (n + m) * i.size := by rw [List.length_append, own_len ho, hs.newsLen, Nat.add_mul]
  have hsmall : n + m ≤ 9223372036854775807 := by simp only [maxLen] at hm; omega
  by_cases hroom : n + m ≤ c
  · -- there is room
    rcases ho.2 with ⟨hv, hn⟩ | ⟨gb, cap, cur, hv, hbg, hg, hnc, hcm, hcs, htake⟩
    · injection hv with h1 h2 h3
      subst h1; subst h2; subst h3
      have hm0 : m = 0 := by omega
      subst hm0
      have hn0 : news = [] := List.eq_nil_of_length_eq_zero (by simpa using hs.newsLen)
      subst hn0
      have hcs : cs = [] := List.eq_nil_of_length_eq_zero (by simpa using own_len ho)
      subst hcs
      refine hrun (.slice none 0 0) w ?_ ?_
      · have hc0 := hs.cells
        have hl0 := hs.len
        rcases hs.kind with ⟨e', hk'⟩ | hk' <;> simp [Builtin.append_, run_underlying ht.h, run_underlying hk', sizeOf, typeInfo, hi, hl0, hc0]
      · have h9 : (own el i.size none 0 0 []).holds w := World.ownsRow_nil w 0 el i.size
        exact hK none 0 w (mm.turn k hk (Chg.refl _ w) h9 (fun b hb => by cases hb))
    · injection hv with h1 h2 h3
      subst h1; subst h3
      have hfit : n * i.size + news.length ≤ cur.size := by rw [hs.newsLen, hcs, ← Nat.add_mul]; exact Nat.mul_le_mul_right _ hroom
      have hst := run_storeCells_at P gb (n * i.size) el news 0 cur w hg (by simpa using hfit) hs.one
      simp only [Nat.add_zero] at hst
      have hr : (Builtin.append_ #[t, t'] ty #[.slice (some ⟨gb, 0, none⟩) n c, v]).run P w = .ok (.slice (some ⟨gb, 0, none⟩) (n + m) c) (w.setRow gb (cur.toList.take (n * i.size) ++ news ++ cur.toList.drop (n * i.size + news.length)).toArray) := by
        rcases hs.kind with ⟨e', hk'⟩ | hk' <;> simp [Builtin.append_, run_underlying ht.h, run_underlying hk', sizeOf, typeInfo, hi, hs.len, hroom, hs.cells, Addr.add_lit, hst]
      refine hrun _ _ hr (hK _ _ _ (mm.turn k hk (Chg.mono chg_setRow (fun b hb => by subst hb; rfl)) ⟨hlen, .inr ⟨gb, c, _, rfl, Nat.zero_le _, setRow_heap w gb cur _ el _ hg, hroom, hcm, ?_, ?_⟩⟩ (fun b hb => .inl hb)))
      · simp only [List.size_toArray, List.length_append, List.length_take, List.length_drop, Array.length_toList]; omega
      · rw [htake, ← hlen]; exact List.take_left
  · have hold : (Builtin.firstCells i.size n (.slice a n c)).run P w.drew = .ok cs.toArray w.drew := by
      cases a with
      | none =>
        have : cs = [] := by
          cases cs with
          | nil => rfl
          | cons u l => obtain ⟨ad, h1, _⟩ := own_cells ho 0 u rfl; cases h1
        subst this
        exact run_firstCells_none w.drew i.size n n c
      | some ad =>
        exact run_firstCells_some w.drew i.size n ad n c cs (own_len ho) (fun j u hu => by
          obtain ⟨ad', h1, h2⟩ := own_cells ho j u (by rw [nth_eq]; exact hu)
          injection h1 with h1; subst h1; simpa using h2)
    have hr := run_append_grow_src (P := P) w t t' ty el i zv ht.h hi hz a n c cs hold v m news hs (by omega) (by omega) (growslice_fits (by omega) hb)
    have hge := grownCap_ge w (n + m) c el
    have hcm := grownCap_le_maxLen w (n + m) c el hm
    have hzs : zv.cells.size = i.size := by rw [hzc]; simpa using hzl
    refine hrun _ _ hr (hK _ _ _ (mm.turn k hk (Chg.trans (Chg.drawn _ w _) (Chg.alloc _ w.drew _)) ⟨hlen, .inr ⟨w.heap.size, _, _, rfl, Nat.zero_le _, heap_alloc_new w.drew _, hge, hcm, ?_, ?_⟩⟩ (fun b hb => .inr ?_)))
    · simp only [Array.size_append, List.size_toArray, size_zeroCells, hzs, hlen, ← Nat.add_mul]
      congr 1
      omega
    · simp only [Array.toList_append, List.append_assoc]
      rw [← List.append_assoc, ← hlen]
      exact List.take_left
    · simp only [own, Option.map_some, Option.some.injEq] at hb
      omega

/-! slicing -/
theorem addr_add0 (a : Addr) : a.add 0 = a := rfl
theorem opt_add0 (a : Option Addr) : a.map (·.add 0) = a := by cases a <;> rfl
def slA (a : Option Addr) (c l sz : Nat) : Option Addr := if c = l then a else a.map (·.add (l * sz))
theorem Cells.sl {a : Option Addr} {cs : List Value} {n c sz : Nat} (h : Cells w a cs) (hl : cs.length = n * sz) (hn : n ≤ c) (l : Nat) : Cells w (slA a c l sz) (cs.drop (l * sz)) := by
  unfold slA
  split
  · rename_i hcl
    have : cs.drop (l * sz) = [] := List.drop_eq_nil_of_le (by rw [hl]; exact Nat.mul_le_mul_right _ (by omega))
    rw [this]
    exact Cells.nil _ _
  · exact h.drop _
section
variable {t el sz by_ n c : Nat} {x y z : Operand} {a : Option Addr} {k k' : IntKind} {l h : Int} {zz : List Value} [ht : TSl P t el] [he : El P el sz by_ zz]
include ht he
theorem r_slh (hx : ev e x = .slice a n c) (hy : ev e y = .int k h) (h0 : 0 ≤ h) (h1 : h ≤ c) : (execOp (ev e) ⟨d, .slice t x none (some y) none, ty, pos, af, g⟩).run P w = .ok (.value (.slice a h.toNat c)) w := by
  obtain ⟨i, zv, hi, hsz, _⟩ := he.h
  simp only [execOp, hx, Option.map_some, Option.map_none, hy, Instr.sliceAt, Sem.run_bind, run_underlying ht.h, Result.andThen_ok, Instr.slice, Instr.sliceBounds, Sem.run_pure, Instr.sliceBound, asIntOf, h0, h1, and_self, if_true, sizeOf, typeInfo, run_program, hi]
  simp [opt_add0]
theorem r_sll (hx : ev e x = .slice a n c) (hy : ev e y = .int k l) (h0 : 0 ≤ l) (h1 : l ≤ n) : (execOp (ev e) ⟨d, .slice t x (some y) none none, ty, pos, af, g⟩).run P w = .ok (.value (.slice (slA a c l.toNat sz) (n - l.toNat) (c - l.toNat))) w := by
  obtain ⟨i, zv, hi, hsz, _⟩ := he.h
  subst hsz
  simp only [execOp, hx, Option.map_some, Option.map_none, hy, Instr.sliceAt, Sem.run_bind, run_underlying ht.h, Result.andThen_ok, Instr.slice, Instr.sliceBounds, Sem.run_pure, Instr.sliceBound, asIntOf, h0, h1, and_self, if_true, sizeOf, typeInfo, run_program, hi]
  rfl
theorem r_slb (hx : ev e x = .slice a n c) (hy : ev e y = .int k l) (hz : ev e z = .int k' h) (h0 : 0 ≤ l) (h1 : l ≤ h) (h2 : h ≤ c) : (execOp (ev e) ⟨d, .slice t x (some y) (some z) none, ty, pos, af, g⟩).run P w = .ok (.value (.slice (slA a c l.toNat sz) (h.toNat - l.toNat) (c - l.toNat))) w := by
  obtain ⟨i, zv, hi, hsz, _⟩ := he.h
  subst hsz
  have h3 : 0 ≤ h := by omega
  have h4 : l ≤ (h.toNat : Int) := by omega
  simp only [execOp, hx, Option.map_some, Option.map_none, hy, hz, Instr.sliceAt, Sem.run_bind, run_underlying ht.h, Result.andThen_ok, Instr.slice, Instr.sliceBounds, Sem.run_pure, Instr.sliceBound, asIntOf, h0, h2, h3, h4, and_self, if_true, sizeOf, typeInfo, run_program, hi]
  rfl
end

theorem o_bs1 {t el by_ : Nat} {x0 : Operand} {v0 : Value} {zv : Value} [ht : TSl P t el] [he : El P el 1 by_ [zv]] (m : Mem w0 F0 w L) (h0 : ev e x0 = v0) (g0 : v0.oneCell' = true)
    (hK : ∀ a c w', Mem w0 F0 w' (L ++ [own el 1 a 1 c [v0]]) → K (.slice a 1 c) w') : OwpE P ⟨d, .buildSlice t 1 #[(0, x0)], ty, pos, af, g⟩ e w K := by
  obtain ⟨i, zv', hi, hsz, _, hz, hzc, _⟩ := he.h
  unfold OwpE
  simp only [execOp, Instr.buildSlice, Sem.run_bind, run_underlying ht.h, Result.andThen_ok, sizeOf, typeInfo, run_program, hi, Sem.run_pure, hsz]
  simp [zeroValue, typeInfo, hi, hz, hzc, Instr.fill, h0, cells_one g0, newRow, Array.range, Array.ofFn_succ, Array.setIfInBounds]
  exact hK _ _ _ (own_made (n := 1) (cs := [v0]) m rfl (by decide))

theorem o_bs2 {t el by_ : Nat} {x0 x1 : Operand} {v0 v1 : Value} {zv : Value} [ht : TSl P t el] [he : El P el 1 by_ [zv]] (m : Mem w0 F0 w L) (h0 : ev e x0 = v0) (g0 : v0.oneCell' = true) (h1 : ev e x1 = v1) (g1 : v1.oneCell' = true)
    (hK : ∀ a c w', Mem w0 F0 w' (L ++ [own el 1 a 2 c [v0, v1]]) → K (.slice a 2 c) w') : OwpE P ⟨d, .buildSlice t 2 #[(0, x0), (1, x1)], ty, pos, af, g⟩ e w K := by
  obtain ⟨i, zv', hi, hsz, _, hz, hzc, _⟩ := he.h
  unfold OwpE
  simp only [execOp, Instr.buildSlice, Sem.run_bind, run_underlying ht.h, Result.andThen_ok, sizeOf, typeInfo, run_program, hi, Sem.run_pure, hsz]
  simp [zeroValue, typeInfo, hi, hz, hzc, Instr.fill, h0, h1, cells_one g0, cells_one g1, newRow, Array.range, Array.ofFn_succ, Array.setIfInBounds]
  exact hK _ _ _ (own_made (n := 2) (cs := [v0, v1]) m rfl (by decide))

theorem o_bs3 {t el by_ : Nat} {x0 x1 x2 : Operand} {v0 v1 v2 : Value} {zv : Value} [ht : TSl P t el] [he : El P el 1 by_ [zv]] (m : Mem w0 F0 w L) (h0 : ev e x0 = v0) (g0 : v0.oneCell' = true) (h1 : ev e x1 = v1) (g1 : v1.oneCell' = true) (h2 : ev e x2 = v2) (g2 : v2.oneCell' = true)
    (hK : ∀ a c w', Mem w0 F0 w' (L ++ [own el 1 a 3 c [v0, v1, v2]]) → K (.slice a 3 c) w') : OwpE P ⟨d, .buildSlice t 3 #[(0, x0), (1, x1), (2, x2)], ty, pos, af, g⟩ e w K := by
  obtain ⟨i, zv', hi, hsz, _, hz, hzc, _⟩ := he.h
  unfold OwpE
  simp only [execOp, Instr.buildSlice, Sem.run_bind, run_underlying ht.h, Result.andThen_ok, sizeOf, typeInfo, run_program, hi, Sem.run_pure, hsz]
  simp [zeroValue, typeInfo, hi, hz, hzc, Instr.fill, h0, h1, h2, cells_one g0, cells_one g1, cells_one g2, newRow, Array.range, Array.ofFn_succ, Array.setIfInBounds]
  exact hK _ _ _ (own_made (n := 3) (cs := [v0, v1, v2]) m rfl (by decide))

theorem o_bs4 {t el by_ : Nat} {x0 x1 x2 x3 : Operand} {v0 v1 v2 v3 : Value} {zv : Value} [ht : TSl P t el] [he : El P el 1 by_ [zv]] (m : Mem w0 F0 w L) (h0 : ev e x0 = v0) (g0 : v0.oneCell' = true) (h1 : ev e x1 = v1) (g1 : v1.oneCell' = true) (h2 : ev e x2 = v2) (g2 : v2.oneCell' = true) (h3 : ev e x3 = v3) (g3 : v3.oneCell' = true)
    (hK : ∀ a c w', Mem w0 F0 w' (L ++ [own el 1 a 4 c [v0, v1, v2, v3]]) → K (.slice a 4 c) w') : OwpE P ⟨d, .buildSlice t 4 #[(0, x0), (1, x1), (2, x2), (3, x3)], ty, pos, af, g⟩ e w K := by
  obtain ⟨i, zv', hi, hsz, _, hz, hzc, _⟩ := he.h
  unfold OwpE
  simp only [execOp, Instr.buildSlice, Sem.run_bind, run_underlying ht.h, Result.andThen_ok, sizeOf, typeInfo, run_program, hi, Sem.run_pure, hsz]
  simp [zeroValue, typeInfo, hi, hz, hzc, Instr.fill, h0, h1, h2, h3, cells_one g0, cells_one g1, cells_one g2, cells_one g3, newRow, Array.range, Array.ofFn_succ, Array.setIfInBounds]
  exact hK _ _ _ (own_made (n := 4) (cs := [v0, v1, v2, v3]) m rfl (by decide))

theorem o_bs5 {t el by_ : Nat} {x0 x1 x2 x3 x4 : Operand} {v0 v1 v2 v3 v4 : Value} {zv : Value} [ht : TSl P t el] [he : El P el 1 by_ [zv]] (m : Mem w0 F0 w L) (h0 : ev e x0 = v0) (g0 : v0.oneCell' = true) (h1 : ev e x1 = v1) (g1 : v1.oneCell' = true) (h2 : ev e x2 = v2) (g2 : v2.oneCell' = true) (h3 : ev e x3 = v3) (g3 : v3.oneCell' = true) (h4 : ev e x4 = v4) (g4 : v4.oneCell' = true)
    (hK : ∀ a c w', Mem w0 F0 w' (L ++ [own el 1 a 5 c [v0, v1, v2, v3, v4]]) → K (.slice a 5 c) w') : OwpE P ⟨d, .buildSlice t 5 #[(0, x0), (1, x1), (2, x2), (3, x3), (4, x4)], ty, pos, af, g⟩ e w K := by
  obtain ⟨i, zv', hi, hsz, _, hz, hzc, _⟩ := he.h
  unfold OwpE
  simp only [execOp, Instr.buildSlice, Sem.run_bind, run_underlying ht.h, Result.andThen_ok, sizeOf, typeInfo, run_program, hi, Sem.run_pure, hsz]
  simp [zeroValue, typeInfo, hi, hz, hzc, Instr.fill, h0, h1, h2, h3, h4, cells_one g0, cells_one g1, cells_one g2, cells_one g3, cells_one g4, newRow, Array.range, Array.ofFn_succ, Array.setIfInBounds]
  exact hK _ _ _ (own_made (n := 5) (cs := [v0, v1, v2, v3, v4]) m rfl (by decide))

theorem o_bs6 {t el by_ : Nat} {x0 x1 x2 x3 x4 x5 : Operand} {v0 v1 v2 v3 v4 v5 : Value} {zv : Value} [ht : TSl P t el] [he : El P el 1 by_ [zv]] (m : Mem w0 F0 w L) (h0 : ev e x0 = v0) (g0 : v0.oneCell' = true) (h1 : ev e x1 = v1) (g1 : v1.oneCell' = true) (h2 : ev e x2 = v2) (g2 : v2.oneCell' = true) (h3 : ev e x3 = v3) (g3 : v3.oneCell' = true) (h4 : ev e x4 = v4) (g4 : v4.oneCell' = true) (h5 : ev e x5 = v5) (g5 : v5.oneCell' = true)
    (hK : ∀ a c w', Mem w0 F0 w' (L ++ [own el 1 a 6 c [v0, v1, v2, v3, v4, v5]]) → K (.slice a 6 c) w') : OwpE P ⟨d, .buildSlice t 6 #[(0, x0), (1, x1), (2, x2), (3, x3), (4, x4), (5, x5)], ty, pos, af, g⟩ e w K := by
  obtain ⟨i, zv', hi, hsz, _, hz, hzc, _⟩ := he.h
  unfold OwpE
  simp only [execOp, Instr.buildSlice, Sem.run_bind, run_underlying ht.h, Result.andThen_ok, sizeOf, typeInfo, run_program, hi, Sem.run_pure, hsz]
  simp [zeroValue, typeInfo, hi, hz, hzc, Instr.fill, h0, h1, h2, h3, h4, h5, cells_one g0, cells_one g1, cells_one g2, cells_one g3, cells_one g4, cells_one g5, newRow, Array.range, Array.ofFn_succ, Array.setIfInBounds]
  exact hK _ _ _ (own_made (n := 6) (cs := [v0, v1, v2, v3, v4, v5]) m rfl (by decide))

theorem o_c0 {f : Nat} {fn : Func} {ats : Array Nat} {Post : Value → World → Prop} [hf : Fnc P f fn]  (hc : Cl P f #[] w Post) (hK : ∀ v w', Post v w' → K v w') : OwpE P ⟨d, .call ⟨.value (.func f), #[], ats⟩, ty, pos, af, g⟩ e w K := by
  have hr : (execOp (ev e) ⟨d, .call ⟨.value (.func f), #[], ats⟩, ty, pos, af, g⟩).run P w = .ok (.enter f #[]) w := by
    have e1 : execOp (ev e) ⟨d, .call ⟨.value (.func f), #[], ats⟩, ty, pos, af, g⟩ = callFunc f (#[] ++ (#[] : Array Operand).map (ev e) ++ #[]) := rfl
    have e2 : (#[] ++ (#[] : Array Operand).map (ev e) ++ #[]) = #[] := by simp []
    rw [e1, e2]
    exact x_callFunc
  unfold OwpE
  rw [hr]
  exact Calls.mono hc fun r w' ⟨v, he, hv⟩ => ⟨v, he, hK v w' hv⟩

theorem o_c1 {f : Nat} {fn : Func} {x0 : Operand} {v0 : Value} {ats : Array Nat} {Post : Value → World → Prop} [hf : Fnc P f fn] (h0 : ev e x0 = v0) (hc : Cl P f #[v0] w Post) (hK : ∀ v w', Post v w' → K v w') : OwpE P ⟨d, .call ⟨.value (.func f), #[x0], ats⟩, ty, pos, af, g⟩ e w K := by
  have hr : (execOp (ev e) ⟨d, .call ⟨.value (.func f), #[x0], ats⟩, ty, pos, af, g⟩).run P w = .ok (.enter f #[v0]) w := by
    have e1 : execOp (ev e) ⟨d, .call ⟨.value (.func f), #[x0], ats⟩, ty, pos, af, g⟩ = callFunc f (#[] ++ (#[x0] : Array Operand).map (ev e) ++ #[]) := rfl
    have e2 : (#[] ++ (#[x0] : Array Operand).map (ev e) ++ #[]) = #[v0] := by simp [h0]
    rw [e1, e2]
    exact x_callFunc
  unfold OwpE
  rw [hr]
  exact Calls.mono hc fun r w' ⟨v, he, hv⟩ => ⟨v, he, hK v w' hv⟩

theorem o_c2 {f : Nat} {fn : Func} {x0 x1 : Operand} {v0 v1 : Value} {ats : Array Nat} {Post : Value → World → Prop} [hf : Fnc P f fn] (h0 : ev e x0 = v0) (h1 : ev e x1 = v1) (hc : Cl P f #[v0, v1] w Post) (hK : ∀ v w', Post v w' → K v w') : OwpE P ⟨d, .call ⟨.value (.func f), #[x0, x1], ats⟩, ty, pos, af, g⟩ e w K := by
  have hr : (execOp (ev e) ⟨d, .call ⟨.value (.func f), #[x0, x1], ats⟩, ty, pos, af, g⟩).run P w = .ok (.enter f #[v0, v1]) w := by
    have e1 : execOp (ev e) ⟨d, .call ⟨.value (.func f), #[x0, x1], ats⟩, ty, pos, af, g⟩ = callFunc f (#[] ++ (#[x0, x1] : Array Operand).map (ev e) ++ #[]) := rfl
    have e2 : (#[] ++ (#[x0, x1] : Array Operand).map (ev e) ++ #[]) = #[v0, v1] := by simp [h0, h1]
    rw [e1, e2]
    exact x_callFunc
  unfold OwpE
  rw [hr]
  exact Calls.mono hc fun r w' ⟨v, he, hv⟩ => ⟨v, he, hK v w' hv⟩

theorem o_c3 {f : Nat} {fn : Func} {x0 x1 x2 : Operand} {v0 v1 v2 : Value} {ats : Array Nat} {Post : Value → World → Prop} [hf : Fnc P f fn] (h0 : ev e x0 = v0) (h1 : ev e x1 = v1) (h2 : ev e x2 = v2) (hc : Cl P f #[v0, v1, v2] w Post) (hK : ∀ v w', Post v w' → K v w') : OwpE P ⟨d, .call ⟨.value (.func f), #[x0, x1, x2], ats⟩, ty, pos, af, g⟩ e w K := by
  have hr : (execOp (ev e) ⟨d, .call ⟨.value (.func f), #[x0, x1, x2], ats⟩, ty, pos, af, g⟩).run P w = .ok (.enter f #[v0, v1, v2]) w := by
    have e1 : execOp (ev e) ⟨d, .call ⟨.value (.func f), #[x0, x1, x2], ats⟩, ty, pos, af, g⟩ = callFunc f (#[] ++ (#[x0, x1, x2] : Array Operand).map (ev e) ++ #[]) := rfl
    have e2 : (#[] ++ (#[x0, x1, x2] : Array Operand).map (ev e) ++ #[]) = #[v0, v1, v2] := by simp [h0, h1, h2]
    rw [e1, e2]
    exact x_callFunc
  unfold OwpE
  rw [hr]
  exact Calls.mono hc fun r w' ⟨v, he, hv⟩ => ⟨v, he, hK v w' hv⟩

theorem o_c4 {f : Nat} {fn : Func} {x0 x1 x2 x3 : Operand} {v0 v1 v2 v3 : Value} {ats : Array Nat} {Post : Value → World → Prop} [hf : Fnc P f fn] (h0 : ev e x0 = v0) (h1 : ev e x1 = v1) (h2 : ev e x2 = v2) (h3 : ev e x3 = v3) (hc : Cl P f #[v0, v1, v2, v3] w Post) (hK : ∀ v w', Post v w' → K v w') : OwpE P ⟨d, .call ⟨.value (.func f), #[x0, x1, x2, x3], ats⟩, ty, pos, af, g⟩ e w K := by
  have hr : (execOp (ev e) ⟨d, .call ⟨.value (.func f), #[x0, x1, x2, x3], ats⟩, ty, pos, af, g⟩).run P w = .ok (.enter f #[v0, v1, v2, v3]) w := by
    have e1 : execOp (ev e) ⟨d, .call ⟨.value (.func f), #[x0, x1, x2, x3], ats⟩, ty, pos, af, g⟩ = callFunc f (#[] ++ (#[x0, x1, x2, x3] : Array Operand).map (ev e) ++ #[]) := rfl
    have e2 : (#[] ++ (#[x0, x1, x2, x3] : Array Operand).map (ev e) ++ #[]) = #[v0, v1, v2, v3] := by simp [h0, h1, h2, h3]
    rw [e1, e2]
    exact x_callFunc
  unfold OwpE
  rw [hr]
  exact Calls.mono hc fun r w' ⟨v, he, hv⟩ => ⟨v, he, hK v w' hv⟩

theorem o_c5 {f : Nat} {fn : Func} {x0 x1 x2 x3 x4 : Operand} {v0 v1 v2 v3 v4 : Value} {ats : Array Nat} {Post : Value → World → Prop} [hf : Fnc P f fn] (h0 : ev e x0 = v0) (h1 : ev e x1 = v1) (h2 : ev e x2 = v2) (h3 : ev e x3 = v3) (h4 : ev e x4 = v4) (hc : Cl P f #[v0, v1, v2, v3, v4] w Post) (hK : ∀ v w', Post v w' → K v w') : OwpE P ⟨d, .call ⟨.value (.func f), #[x0, x1, x2, x3, x4], ats⟩, ty, pos, af, g⟩ e w K := by
  have hr : (execOp (ev e) ⟨d, .call ⟨.value (.func f), #[x0, x1, x2, x3, x4], ats⟩, ty, pos, af, g⟩).run P w = .ok (.enter f #[v0, v1, v2, v3, v4]) w := by
    have e1 : execOp (ev e) ⟨d, .call ⟨.value (.func f), #[x0, x1, x2, x3, x4], ats⟩, ty, pos, af, g⟩ = callFunc f (#[] ++ (#[x0, x1, x2, x3, x4] : Array Operand).map (ev e) ++ #[]) := rfl
    have e2 : (#[] ++ (#[x0, x1, x2, x3, x4] : Array Operand).map (ev e) ++ #[]) = #[v0, v1, v2, v3, v4] := by simp [h0, h1, h2, h3, h4]
    rw [e1, e2]
    exact x_callFunc
  unfold OwpE
  rw [hr]
  exact Calls.mono hc fun r w' ⟨v, he, hv⟩ => ⟨v, he, hK v w' hv⟩

theorem o_c6 {f : Nat} {fn : Func} {x0 x1 x2 x3 x4 x5 : Operand} {v0 v1 v2 v3 v4 v5 : Value} {ats : Array Nat} {Post : Value → World → Prop} [hf : Fnc P f fn] (h0 : ev e x0 = v0) (h1 : ev e x1 = v1) (h2 : ev e x2 = v2) (h3 : ev e x3 = v3) (h4 : ev e x4 = v4) (h5 : ev e x5 = v5) (hc : Cl P f #[v0, v1, v2, v3, v4, v5] w Post) (hK : ∀ v w', Post v w' → K v w') : OwpE P ⟨d, .call ⟨.value (.func f), #[x0, x1, x2, x3, x4, x5], ats⟩, ty, pos, af, g⟩ e w K := by
  have hr : (execOp (ev e) ⟨d, .call ⟨.value (.func f), #[x0, x1, x2, x3, x4, x5], ats⟩, ty, pos, af, g⟩).run P w = .ok (.enter f #[v0, v1, v2, v3, v4, v5]) w := by
    have e1 : execOp (ev e) ⟨d, .call ⟨.value (.func f), #[x0, x1, x2, x3, x4, x5], ats⟩, ty, pos, af, g⟩ = callFunc f (#[] ++ (#[x0, x1, x2, x3, x4, x5] : Array Operand).map (ev e) ++ #[]) := rfl
    have e2 : (#[] ++ (#[x0, x1, x2, x3, x4, x5] : Array Operand).map (ev e) ++ #[]) = #[v0, v1, v2, v3, v4, v5] := by simp [h0, h1, h2, h3, h4, h5]
    rw [e1, e2]
    exact x_callFunc
  unfold OwpE
  rw [hr]
  exact Calls.mono hc fun r w' ⟨v, he, hv⟩ => ⟨v, he, hK v w' hv⟩

theorem o_c7 {f : Nat} {fn : Func} {x0 x1 x2 x3 x4 x5 x6 : Operand} {v0 v1 v2 v3 v4 v5 v6 : Value} {ats : Array Nat} {Post : Value → World → Prop} [hf : Fnc P f fn] (h0 : ev e x0 = v0) (h1 : ev e x1 = v1) (h2 : ev e x2 = v2) (h3 : ev e x3 = v3) (h4 : ev e x4 = v4) (h5 : ev e x5 = v5) (h6 : ev e x6 = v6) (hc : Cl P f #[v0, v1, v2, v3, v4, v5, v6] w Post) (hK : ∀ v w', Post v w' → K v w') : OwpE P ⟨d, .call ⟨.value (.func f), #[x0, x1, x2, x3, x4, x5, x6], ats⟩, ty, pos, af, g⟩ e w K := by
  have hr : (execOp (ev e) ⟨d, .call ⟨.value (.func f), #[x0, x1, x2, x3, x4, x5, x6], ats⟩, ty, pos, af, g⟩).run P w = .ok (.enter f #[v0, v1, v2, v3, v4, v5, v6]) w := by
    have e1 : execOp (ev e) ⟨d, .call ⟨.value (.func f), #[x0, x1, x2, x3, x4, x5, x6], ats⟩, ty, pos, af, g⟩ = callFunc f (#[] ++ (#[x0, x1, x2, x3, x4, x5, x6] : Array Operand).map (ev e) ++ #[]) := rfl
    have e2 : (#[] ++ (#[x0, x1, x2, x3, x4, x5, x6] : Array Operand).map (ev e) ++ #[]) = #[v0, v1, v2, v3, v4, v5, v6] := by simp [h0, h1, h2, h3, h4, h5, h6]
    rw [e1, e2]
    exact x_callFunc
  unfold OwpE
  rw [hr]
  exact Calls.mono hc fun r w' ⟨v, he, hv⟩ => ⟨v, he, hK v w' hv⟩

theorem o_f00 {f : Nat} {fn : Func} {q : Operand} {ats : Array Nat} {Post : Value → World → Prop} [hf : Fnc P f fn] (hq : ev e q = .func (.func f) #[] #[])  (hc : Cl P f #[] w Post) (hK : ∀ v w', Post v w' → K v w') : OwpE P ⟨d, .call ⟨.value q, #[], ats⟩, ty, pos, af, g⟩ e w K := by
  have hr : (execOp (ev e) ⟨d, .call ⟨.value q, #[], ats⟩, ty, pos, af, g⟩).run P w = .ok (.enter f #[]) w := by
    have e1 : (execOp (ev e) ⟨d, .call ⟨.value q, #[], ats⟩, ty, pos, af, g⟩) = (do let d ← Deferred.ofValue (ev e q) ((#[] : Array Operand).map (ev e)); invoke d.target d.args) := rfl
    have e2 : (#[] : Array Operand).map (ev e) = #[] := by simp []
    rw [e1, hq, e2]
    simp only [Deferred.ofValue, Sem.run_bind, Sem.run_pure, Result.andThen_ok, invoke]
    exact x_callFunc
  unfold OwpE
  rw [hr]
  exact Calls.mono hc fun r w' ⟨v, he, hv⟩ => ⟨v, he, hK v w' hv⟩

theorem o_f01 {f : Nat} {fn : Func} {q : Operand} {u0 : Value} {ats : Array Nat} {Post : Value → World → Prop} [hf : Fnc P f fn] (hq : ev e q = .func (.func f) #[] #[u0])  (hc : Cl P f #[u0] w Post) (hK : ∀ v w', Post v w' → K v w') : OwpE P ⟨d, .call ⟨.value q, #[], ats⟩, ty, pos, af, g⟩ e w K := by
  have hr : (execOp (ev e) ⟨d, .call ⟨.value q, #[], ats⟩, ty, pos, af, g⟩).run P w = .ok (.enter f #[u0]) w := by
    have e1 : (execOp (ev e) ⟨d, .call ⟨.value q, #[], ats⟩, ty, pos, af, g⟩) = (do let d ← Deferred.ofValue (ev e q) ((#[] : Array Operand).map (ev e)); invoke d.target d.args) := rfl
    have e2 : (#[] : Array Operand).map (ev e) = #[] := by simp []
    rw [e1, hq, e2]
    simp only [Deferred.ofValue, Sem.run_bind, Sem.run_pure, Result.andThen_ok, invoke]
    exact x_callFunc
  unfold OwpE
  rw [hr]
  exact Calls.mono hc fun r w' ⟨v, he, hv⟩ => ⟨v, he, hK v w' hv⟩

theorem o_f02 {f : Nat} {fn : Func} {q : Operand} {u0 u1 : Value} {ats : Array Nat} {Post : Value → World → Prop} [hf : Fnc P f fn] (hq : ev e q = .func (.func f) #[] #[u0, u1])  (hc : Cl P f #[u0, u1] w Post) (hK : ∀ v w', Post v w' → K v w') : OwpE P ⟨d, .call ⟨.value q, #[], ats⟩, ty, pos, af, g⟩ e w K := by
  have hr : (execOp (ev e) ⟨d, .call ⟨.value q, #[], ats⟩, ty, pos, af, g⟩).run P w = .ok (.enter f #[u0, u1]) w := by
    have e1 : (execOp (ev e) ⟨d, .call ⟨.value q, #[], ats⟩, ty, pos, af, g⟩) = (do let d ← Deferred.ofValue (ev e q) ((#[] : Array Operand).map (ev e)); invoke d.target d.args) := rfl
    have e2 : (#[] : Array Operand).map (ev e) = #[] := by simp []
    rw [e1, hq, e2]
    simp only [Deferred.ofValue, Sem.run_bind, Sem.run_pure, Result.andThen_ok, invoke]
    exact x_callFunc
  unfold OwpE
  rw [hr]
  exact Calls.mono hc fun r w' ⟨v, he, hv⟩ => ⟨v, he, hK v w' hv⟩

theorem o_f03 {f : Nat} {fn : Func} {q : Operand} {u0 u1 u2 : Value} {ats : Array Nat} {Post : Value → World → Prop} [hf : Fnc P f fn] (hq : ev e q = .func (.func f) #[] #[u0, u1, u2])  (hc : Cl P f #[u0, u1, u2] w Post) (hK : ∀ v w', Post v w' → K v w') : OwpE P ⟨d, .call ⟨.value q, #[], ats⟩, ty, pos, af, g⟩ e w K := by
  have hr : (execOp (ev e) ⟨d, .call ⟨.value q, #[], ats⟩, ty, pos, af, g⟩).run P w = .ok (.enter f #[u0, u1, u2]) w := by
    have e1 : (execOp (ev e) ⟨d, .call ⟨.value q, #[], ats⟩, ty, pos, af, g⟩) = (do let d ← Deferred.ofValue (ev e q) ((#[] : Array Operand).map (ev e)); invoke d.target d.args) := rfl
    have e2 : (#[] : Array Operand).map (ev e) = #[] := by simp []
    rw [e1, hq, e2]
    simp only [Deferred.ofValue, Sem.run_bind, Sem.run_pure, Result.andThen_ok, invoke]
    exact x_callFunc
  unfold OwpE
  rw [hr]
  exact Calls.mono hc fun r w' ⟨v, he, hv⟩ => ⟨v, he, hK v w' hv⟩

theorem o_f04 {f : Nat} {fn : Func} {q : Operand} {u0 u1 u2 u3 : Value} {ats : Array Nat} {Post : Value → World → Prop} [hf : Fnc P f fn] (hq : ev e q = .func (.func f) #[] #[u0, u1, u2, u3])  (hc : Cl P f #[u0, u1, u2, u3] w Post) (hK : ∀ v w', Post v w' → K v w') : OwpE P ⟨d, .call ⟨.value q, #[], ats⟩, ty, pos, af, g⟩ e w K := by
  have hr : (execOp (ev e) ⟨d, .call ⟨.value q, #[], ats⟩, ty, pos, af, g⟩).run P w = .ok (.enter f #[u0, u1, u2, u3]) w := by
    have e1 : (execOp (ev e) ⟨d, .call ⟨.value q, #[], ats⟩, ty, pos, af, g⟩) = (do let d ← Deferred.ofValue (ev e q) ((#[] : Array Operand).map (ev e)); invoke d.target d.args) := rfl
    have e2 : (#[] : Array Operand).map (ev e) = #[] := by simp []
    rw [e1, hq, e2]
    simp only [Deferred.ofValue, Sem.run_bind, Sem.run_pure, Result.andThen_ok, invoke]
    exact x_callFunc
  unfold OwpE
  rw [hr]
  exact Calls.mono hc fun r w' ⟨v, he, hv⟩ => ⟨v, he, hK v w' hv⟩

theorem o_f05 {f : Nat} {fn : Func} {q : Operand} {u0 u1 u2 u3 u4 : Value} {ats : Array Nat} {Post : Value → World → Prop} [hf : Fnc P f fn] (hq : ev e q = .func (.func f) #[] #[u0, u1, u2, u3, u4])  (hc : Cl P f #[u0, u1, u2, u3, u4] w Post) (hK : ∀ v w', Post v w' → K v w') : OwpE P ⟨d, .call ⟨.value q, #[], ats⟩, ty, pos, af, g⟩ e w K := by
  have hr : (execOp (ev e) ⟨d, .call ⟨.value q, #[], ats⟩, ty, pos, af, g⟩).run P w = .ok (.enter f #[u0, u1, u2, u3, u4]) w := by
    have e1 : (execOp (ev e) ⟨d, .call ⟨.value q, #[], ats⟩, ty, pos, af, g⟩) = (do let d ← Deferred.ofValue (ev e q) ((#[] : Array Operand).map (ev e)); invoke d.target d.args) := rfl
    have e2 : (#[] : Array Operand).map (ev e) = #[] := by simp []
    rw [e1, hq, e2]
    simp only [Deferred.ofValue, Sem.run_bind, Sem.run_pure, Result.andThen_ok, invoke]
    exact x_callFunc
  unfold OwpE
  rw [hr]
  exact Calls.mono hc fun r w' ⟨v, he, hv⟩ => ⟨v, he, hK v w' hv⟩

theorem o_f10 {f : Nat} {fn : Func} {q : Operand} {x0 : Operand} {v0 : Value} {ats : Array Nat} {Post : Value → World → Prop} [hf : Fnc P f fn] (hq : ev e q = .func (.func f) #[] #[]) (h0 : ev e x0 = v0) (hc : Cl P f #[v0] w Post) (hK : ∀ v w', Post v w' → K v w') : OwpE P ⟨d, .call ⟨.value q, #[x0], ats⟩, ty, pos, af, g⟩ e w K := by
  have hr : (execOp (ev e) ⟨d, .call ⟨.value q, #[x0], ats⟩, ty, pos, af, g⟩).run P w = .ok (.enter f #[v0]) w := by
    have e1 : (execOp (ev e) ⟨d, .call ⟨.value q, #[x0], ats⟩, ty, pos, af, g⟩) = (do let d ← Deferred.ofValue (ev e q) ((#[x0] : Array Operand).map (ev e)); invoke d.target d.args) := rfl
    have e2 : (#[x0] : Array Operand).map (ev e) = #[v0] := by simp [h0]
    rw [e1, hq, e2]
    simp only [Deferred.ofValue, Sem.run_bind, Sem.run_pure, Result.andThen_ok, invoke]
    exact x_callFunc
  unfold OwpE
  rw [hr]
  exact Calls.mono hc fun r w' ⟨v, he, hv⟩ => ⟨v, he, hK v w' hv⟩

theorem o_f11 {f : Nat} {fn : Func} {q : Operand} {x0 : Operand} {v0 u0 : Value} {ats : Array Nat} {Post : Value → World → Prop} [hf : Fnc P f fn] (hq : ev e q = .func (.func f) #[] #[u0]) (h0 : ev e x0 = v0) (hc : Cl P f #[v0, u0] w Post) (hK : ∀ v w', Post v w' → K v w') : OwpE P ⟨d, .call ⟨.value q, #[x0], ats⟩, ty, pos, af, g⟩ e w K := by
  have hr : (execOp (ev e) ⟨d, .call ⟨.value q, #[x0], ats⟩, ty, pos, af, g⟩).run P w = .ok (.enter f #[v0, u0]) w := by
    have e1 : (execOp (ev e) ⟨d, .call ⟨.value q, #[x0], ats⟩, ty, pos, af, g⟩) = (do let d ← Deferred.ofValue (ev e q) ((#[x0] : Array Operand).map (ev e)); invoke d.target d.args) := rfl
    have e2 : (#[x0] : Array Operand).map (ev e) = #[v0] := by simp [h0]
    rw [e1, hq, e2]
    simp only [Deferred.ofValue, Sem.run_bind, Sem.run_pure, Result.andThen_ok, invoke]
    exact x_callFunc
  unfold OwpE
  rw [hr]
  exact Calls.mono hc fun r w' ⟨v, he, hv⟩ => ⟨v, he, hK v w' hv⟩

theorem o_f12 {f : Nat} {fn : Func} {q : Operand} {x0 : Operand} {v0 u0 u1 : Value} {ats : Array Nat} {Post : Value → World → Prop} [hf : Fnc P f fn] (hq : ev e q = .func (.func f) #[] #[u0, u1]) (h0 : ev e x0 = v0) (hc : Cl P f #[v0, u0, u1] w Post) (hK : ∀ v w', Post v w' → K v w') : OwpE P ⟨d, .call ⟨.value q, #[x0], ats⟩, ty, pos, af, g⟩ e w K := by
  have hr : (execOp (ev e) ⟨d, .call ⟨.value q, #[x0], ats⟩, ty, pos, af, g⟩).run P w = .ok (.enter f #[v0, u0, u1]) w := by
    have e1 : (execOp (ev e) ⟨d, .call ⟨.value q, #[x0], ats⟩, ty, pos, af, g⟩) = (do let d ← Deferred.ofValue (ev e q) ((#[x0] : Array Operand).map (ev e)); invoke d.target d.args) := rfl
    have e2 : (#[x0] : Array Operand).map (ev e) = #[v0] := by simp [h0]
    rw [e1, hq, e2]
    simp only [Deferred.ofValue, Sem.run_bind, Sem.run_pure, Result.andThen_ok, invoke]
    exact x_callFunc
  unfold OwpE
  rw [hr]
  exact Calls.mono hc fun r w' ⟨v, he, hv⟩ => ⟨v, he, hK v w' hv⟩

theorem o_f13 {f : Nat} {fn : Func} {q : Operand} {x0 : Operand} {v0 u0 u1 u2 : Value} {ats : Array Nat} {Post : Value → World → Prop} [hf : Fnc P f fn] (hq : ev e q = .func (.func f) #[] #[u0, u1, u2]) (h0 : ev e x0 = v0) (hc : Cl P f #[v0, u0, u1, u2] w Post) (hK : ∀ v w', Post v w' → K v w') : OwpE P ⟨d, .call ⟨.value q, #[x0], ats⟩, ty, pos, af, g⟩ e w K := by
  have hr : (execOp (ev e) ⟨d, .call ⟨.value q, #[x0], ats⟩, ty, pos, af, g⟩).run P w = .ok (.enter f #[v0, u0, u1, u2]) w := by
    have e1 : (execOp (ev e) ⟨d, .call ⟨.value q, #[x0], ats⟩, ty, pos, af, g⟩) = (do let d ← Deferred.ofValue (ev e q) ((#[x0] : Array Operand).map (ev e)); invoke d.target d.args) := rfl
    have e2 : (#[x0] : Array Operand).map (ev e) = #[v0] := by simp [h0]
    rw [e1, hq, e2]
    simp only [Deferred.ofValue, Sem.run_bind, Sem.run_pure, Result.andThen_ok, invoke]
    exact x_callFunc
  unfold OwpE
  rw [hr]
  exact Calls.mono hc fun r w' ⟨v, he, hv⟩ => ⟨v, he, hK v w' hv⟩

theorem o_f14 {f : Nat} {fn : Func} {q : Operand} {x0 : Operand} {v0 u0 u1 u2 u3 : Value} {ats : Array Nat} {Post : Value → World → Prop} [hf : Fnc P f fn] (hq : ev e q = .func (.func f) #[] #[u0, u1, u2, u3]) (h0 : ev e x0 = v0) (hc : Cl P f #[v0, u0, u1, u2, u3] w Post) (hK : ∀ v w', Post v w' → K v w') : OwpE P ⟨d, .call ⟨.value q, #[x0], ats⟩, ty, pos, af, g⟩ e w K := by
  have hr : (execOp (ev e) ⟨d, .call ⟨.value q, #[x0], ats⟩, ty, pos, af, g⟩).run P w = .ok (.enter f #[v0, u0, u1, u2, u3]) w := by
    have e1 : (execOp (ev e) ⟨d, .call ⟨.value q, #[x0], ats⟩, ty, pos, af, g⟩) = (do let d ← Deferred.ofValue (ev e q) ((#[x0] : Array Operand).map (ev e)); invoke d.target d.args) := rfl
    have e2 : (#[x0] : Array Operand).map (ev e) = #[v0] := by simp [h0]
    rw [e1, hq, e2]
    simp only [Deferred.ofValue, Sem.run_bind, Sem.run_pure, Result.andThen_ok, invoke]
    exact x_callFunc
  unfold OwpE
  rw [hr]
  exact Calls.mono hc fun r w' ⟨v, he, hv⟩ => ⟨v, he, hK v w' hv⟩

theorem o_f15 {f : Nat} {fn : Func} {q : Operand} {x0 : Operand} {v0 u0 u1 u2 u3 u4 : Value} {ats : Array Nat} {Post : Value → World → Prop} [hf : Fnc P f fn] (hq : ev e q = .func (.func f) #[] #[u0, u1, u2, u3, u4]) (h0 : ev e x0 = v0) (hc : Cl P f #[v0, u0, u1, u2, u3, u4] w Post) (hK : ∀ v w', Post v w' → K v w') : OwpE P ⟨d, .call ⟨.value q, #[x0], ats⟩, ty, pos, af, g⟩ e w K := by
  have hr : (execOp (ev e) ⟨d, .call ⟨.value q, #[x0], ats⟩, ty, pos, af, g⟩).run P w = .ok (.enter f #[v0, u0, u1, u2, u3, u4]) w := by
    have e1 : (execOp (ev e) ⟨d, .call ⟨.value q, #[x0], ats⟩, ty, pos, af, g⟩) = (do let d ← Deferred.ofValue (ev e q) ((#[x0] : Array Operand).map (ev e)); invoke d.target d.args) := rfl
    have e2 : (#[x0] : Array Operand).map (ev e) = #[v0] := by simp [h0]
    rw [e1, hq, e2]
    simp only [Deferred.ofValue, Sem.run_bind, Sem.run_pure, Result.andThen_ok, invoke]
    exact x_callFunc
  unfold OwpE
  rw [hr]
  exact Calls.mono hc fun r w' ⟨v, he, hv⟩ => ⟨v, he, hK v w' hv⟩

theorem o_f20 {f : Nat} {fn : Func} {q : Operand} {x0 x1 : Operand} {v0 v1 : Value} {ats : Array Nat} {Post : Value → World → Prop} [hf : Fnc P f fn] (hq : ev e q = .func (.func f) #[] #[]) (h0 : ev e x0 = v0) (h1 : ev e x1 = v1) (hc : Cl P f #[v0, v1] w Post) (hK : ∀ v w', Post v w' → K v w') : OwpE P ⟨d, .call ⟨.value q, #[x0, x1], ats⟩, ty, pos, af, g⟩ e w K := by
  have hr : (execOp (ev e) ⟨d, .call ⟨.value q, #[x0, x1], ats⟩, ty, pos, af, g⟩).run P w = .ok (.enter f #[v0, v1]) w := by
    have e1 : (execOp (ev e) ⟨d, .call ⟨.value q, #[x0, x1], ats⟩, ty, pos, af, g⟩) = (do let d ← Deferred.ofValue (ev e q) ((#[x0, x1] : Array Operand).map (ev e)); invoke d.target d.args) := rfl
    have e2 : (#[x0, x1] : Array Operand).map (ev e) = #[v0, v1] := by simp [h0, h1]
    rw [e1, hq, e2]
    simp only [Deferred.ofValue, Sem.run_bind, Sem.run_pure, Result.andThen_ok, invoke]
    exact x_callFunc
  unfold OwpE
  rw [hr]
  exact Calls.mono hc fun r w' ⟨v, he, hv⟩ => ⟨v, he, hK v w' hv⟩

theorem o_f21 {f : Nat} {fn : Func} {q : Operand} {x0 x1 : Operand} {v0 v1 u0 : Value} {ats : Array Nat} {Post : Value → World → Prop} [hf : Fnc P f fn] (hq : ev e q = .func (.func f) #[] #[u0]) (h0 : ev e x0 = v0) (h1 : ev e x1 = v1) (hc : Cl P f #[v0, v1, u0] w Post) (hK : ∀ v w', Post v w' → K v w') : OwpE P ⟨d, .call ⟨.value q, #[x0, x1], ats⟩, ty, pos, af, g⟩ e w K := by
  have hr : (execOp (ev e) ⟨d, .call ⟨.value q, #[x0, x1], ats⟩, ty, pos, af, g⟩).run P w = .ok (.enter f #[v0, v1, u0]) w := by
    have e1 : (execOp (ev e) ⟨d, .call ⟨.value q, #[x0, x1], ats⟩, ty, pos, af, g⟩) = (do let d ← Deferred.ofValue (ev e q) ((#[x0, x1] : Array Operand).map (ev e)); invoke d.target d.args) := rfl
    have e2 : (#[x0, x1] : Array Operand).map (ev e) = #[v0, v1] := by simp [h0, h1]
    rw [e1, hq, e2]
    simp only [Deferred.ofValue, Sem.run_bind, Sem.run_pure, Result.andThen_ok, invoke]
    exact x_callFunc
  unfold OwpE
  rw [hr]
  exact Calls.mono hc fun r w' ⟨v, he, hv⟩ => ⟨v, he, hK v w' hv⟩

theorem o_f22 {f : Nat} {fn : Func} {q : Operand} {x0 x1 : Operand} {v0 v1 u0 u1 : Value} {ats : Array Nat} {Post : Value → World → Prop} [hf : Fnc P f fn] (hq : ev e q = .func (.func f) #[] #[u0, u1]) (h0 : ev e x0 = v0) (h1 : ev e x1 = v1) (hc : Cl P f #[v0, v1, u0, u1] w Post) (hK : ∀ v w', Post v w' → K v w') : OwpE P ⟨d, .call ⟨.value q, #[x0, x1], ats⟩, ty, pos, af, g⟩ e w K := by
  have hr : (execOp (ev e) ⟨d, .call ⟨.value q, #[x0, x1], ats⟩, ty, pos, af, g⟩).run P w = .ok (.enter f #[v0, v1, u0, u1]) w := by
    have e1 : (execOp (ev e) ⟨d, .call ⟨.value q, #[x0, x1], ats⟩, ty, pos, af, g⟩) = (do let d ← Deferred.ofValue (ev e q) ((#[x0, x1] : Array Operand).map (ev e)); invoke d.target d.args) := rfl
    have e2 : (#[x0, x1] : Array Operand).map (ev e) = #[v0, v1] := by simp [h0, h1]
    rw [e1, hq, e2]
    simp only [Deferred.ofValue, Sem.run_bind, Sem.run_pure, Result.andThen_ok, invoke]
    exact x_callFunc
  unfold OwpE
  rw [hr]
  exact Calls.mono hc fun r w' ⟨v, he, hv⟩ => ⟨v, he, hK v w' hv⟩

theorem o_f23 {f : Nat} {fn : Func} {q : Operand} {x0 x1 : Operand} {v0 v1 u0 u1 u2 : Value} {ats : Array Nat} {Post : Value → World → Prop} [hf : Fnc P f fn] (hq : ev e q = .func (.func f) #[] #[u0, u1, u2]) (h0 : ev e x0 = v0) (h1 : ev e x1 = v1) (hc : Cl P f #[v0, v1, u0, u1, u2] w Post) (hK : ∀ v w', Post v w' → K v w') : OwpE P ⟨d, .call ⟨.value q, #[x0, x1], ats⟩, ty, pos, af, g⟩ e w K := by
  have hr : (execOp (ev e) ⟨d, .call ⟨.value q, #[x0, x1], ats⟩, ty, pos, af, g⟩).run P w = .ok (.enter f #[v0, v1, u0, u1, u2]) w := by
    have e1 : (execOp (ev e) ⟨d, .call ⟨.value q, #[x0, x1], ats⟩, ty, pos, af, g⟩) = (do let d ← Deferred.ofValue (ev e q) ((#[x0, x1] : Array Operand).map (ev e)); invoke d.target d.args) := rfl
    have e2 : (#[x0, x1] : Array Operand).map (ev e) = #[v0, v1] := by simp [h0, h1]
    rw [e1, hq, e2]
    simp only [Deferred.ofValue, Sem.run_bind, Sem.run_pure, Result.andThen_ok, invoke]
    exact x_callFunc
  unfold OwpE
  rw [hr]
  exact Calls.mono hc fun r w' ⟨v, he, hv⟩ => ⟨v, he, hK v w' hv⟩

theorem o_f24 {f : Nat} {fn : Func} {q : Operand} {x0 x1 : Operand} {v0 v1 u0 u1 u2 u3 : Value} {ats : Array Nat} {Post : Value → World → Prop} [hf : Fnc P f fn] (hq : ev e q = .func (.func f) #[] #[u0, u1, u2, u3]) (h0 : ev e x0 = v0) (h1 : ev e x1 = v1) (hc : Cl P f #[v0, v1, u0, u1, u2, u3] w Post) (hK : ∀ v w', Post v w' → K v w') : OwpE P ⟨d, .call ⟨.value q, #[x0, x1], ats⟩, ty, pos, af, g⟩ e w K := by
  have hr : (execOp (ev e) ⟨d, .call ⟨.value q, #[x0, x1], ats⟩, ty, pos, af, g⟩).run P w = .ok (.enter f #[v0, v1, u0, u1, u2, u3]) w := by
    have e1 : (execOp (ev e) ⟨d, .call ⟨.value q, #[x0, x1], ats⟩, ty, pos, af, g⟩) = (do let d ← Deferred.ofValue (ev e q) ((#[x0, x1] : Array Operand).map (ev e)); invoke d.target d.args) := rfl
    have e2 : (#[x0, x1] : Array Operand).map (ev e) = #[v0, v1] := by simp [h0, h1]
    rw [e1, hq, e2]
    simp only [Deferred.ofValue, Sem.run_bind, Sem.run_pure, Result.andThen_ok, invoke]
    exact x_callFunc
  unfold OwpE
  rw [hr]
  exact Calls.mono hc fun r w' ⟨v, he, hv⟩ => ⟨v, he, hK v w' hv⟩

theorem o_f25 {f : Nat} {fn : Func} {q : Operand} {x0 x1 : Operand} {v0 v1 u0 u1 u2 u3 u4 : Value} {ats : Array Nat} {Post : Value → World → Prop} [hf : Fnc P f fn] (hq : ev e q = .func (.func f) #[] #[u0, u1, u2, u3, u4]) (h0 : ev e x0 = v0) (h1 : ev e x1 = v1) (hc : Cl P f #[v0, v1, u0, u1, u2, u3, u4] w Post) (hK : ∀ v w', Post v w' → K v w') : OwpE P ⟨d, .call ⟨.value q, #[x0, x1], ats⟩, ty, pos, af, g⟩ e w K := by
  have hr : (execOp (ev e) ⟨d, .call ⟨.value q, #[x0, x1], ats⟩, ty, pos, af, g⟩).run P w = .ok (.enter f #[v0, v1, u0, u1, u2, u3, u4]) w := by
    have e1 : (execOp (ev e) ⟨d, .call ⟨.value q, #[x0, x1], ats⟩, ty, pos, af, g⟩) = (do let d ← Deferred.ofValue (ev e q) ((#[x0, x1] : Array Operand).map (ev e)); invoke d.target d.args) := rfl
    have e2 : (#[x0, x1] : Array Operand).map (ev e) = #[v0, v1] := by simp [h0, h1]
    rw [e1, hq, e2]
    simp only [Deferred.ofValue, Sem.run_bind, Sem.run_pure, Result.andThen_ok, invoke]
    exact x_callFunc
  unfold OwpE
  rw [hr]
  exact Calls.mono hc fun r w' ⟨v, he, hv⟩ => ⟨v, he, hK v w' hv⟩

theorem o_f30 {f : Nat} {fn : Func} {q : Operand} {x0 x1 x2 : Operand} {v0 v1 v2 : Value} {ats : Array Nat} {Post : Value → World → Prop} [hf : Fnc P f fn] (hq : ev e q = .func (.func f) #[] #[]) (h0 : ev e x0 = v0) (h1 : ev e x1 = v1) (h2 : ev e x2 = v2) (hc : Cl P f #[v0, v1, v2] w Post) (hK : ∀ v w', Post v w' → K v w') : OwpE P ⟨d, .call ⟨.value q, #[x0, x1, x2], ats⟩, ty, pos, af, g⟩ e w K := by
  have hr : (execOp (ev e) ⟨d, .call ⟨.value q, #[x0, x1, x2], ats⟩, ty, pos, af, g⟩).run P w = .ok (.enter f #[v0, v1, v2]) w := by
    have e1 : (execOp (ev e) ⟨d, .call ⟨.value q, #[x0, x1, x2], ats⟩, ty, pos, af, g⟩) = (do let d ← Deferred.ofValue (ev e q) ((#[x0, x1, x2] : Array Operand).map (ev e)); invoke d.target d.args) := rfl
    have e2 : (#[x0, x1, x2] : Array Operand).map (ev e) = #[v0, v1, v2] := by simp [h0, h1, h2]
    rw [e1, hq, e2]
    simp only [Deferred.ofValue, Sem.run_bind, Sem.run_pure, Result.andThen_ok, invoke]
    exact x_callFunc
  unfold OwpE
  rw [hr]
  exact Calls.mono hc fun r w' ⟨v, he, hv⟩ => ⟨v, he, hK v w' hv⟩

theorem o_f31 {f : Nat} {fn : Func} {q : Operand} {x0 x1 x2 : Operand} {v0 v1 v2 u0 : Value} {ats : Array Nat} {Post : Value → World → Prop} [hf : Fnc P f fn] (hq : ev e q = .func (.func f) #[] #[u0]) (h0 : ev e x0 = v0) (h1 : ev e x1 = v1) (h2 : ev e x2 = v2) (hc : Cl P f #[v0, v1, v2, u0] w Post) (hK : ∀ v w', Post v w' → K v w') : OwpE P ⟨d, .call ⟨.value q, #[x0, x1, x2], ats⟩, ty, pos, af, g⟩ e w K := by
  have hr : (execOp (ev e) ⟨d, .call ⟨.value q, #[x0, x1, x2], ats⟩, ty, pos, af, g⟩).run P w = .ok (.enter f #[v0, v1, v2, u0]) w := by
    have e1 : (execOp (ev e) ⟨d, .call ⟨.value q, #[x0, x1, x2], ats⟩, ty, pos, af, g⟩) = (do let d ← Deferred.ofValue (ev e q) ((#[x0, x1, x2] : Array Operand).map (ev e)); invoke d.target d.args) := rfl
    have e2 : (#[x0, x1, x2] : Array Operand).map (ev e) = #[v0, v1, v2] := by simp [h0, h1, h2]
    rw [e1, hq, e2]
    simp only [Deferred.ofValue, Sem.run_bind, Sem.run_pure, Result.andThen_ok, invoke]
    exact x_callFunc
  unfold OwpE
  rw [hr]
  exact Calls.mono hc fun r w' ⟨v, he, hv⟩ => ⟨v, he, hK v w' hv⟩

theorem o_f32 {f : Nat} {fn : Func} {q : Operand} {x0 x1 x2 : Operand} {v0 v1 v2 u0 u1 : Value} {ats : Array Nat} {Post : Value → World → Prop} [hf : Fnc P f fn] (hq : ev e q = .func (.func f) #[] #[u0, u1]) (h0 : ev e x0 = v0) (h1 : ev e x1 = v1) (h2 : ev e x2 = v2) (hc : Cl P f #[v0, v1, v2, u0, u1] w Post) (hK : ∀ v w', Post v w' → K v w') : OwpE P ⟨d, .call ⟨.value q, #[x0, x1, x2], ats⟩, ty, pos, af, g⟩ e w K := by
  have hr : (execOp (ev e) ⟨d, .call ⟨.value q, #[x0, x1, x2], ats⟩, ty, pos, af, g⟩).run P w = .ok (.enter f #[v0, v1, v2, u0, u1]) w := by
    have e1 : (execOp (ev e) ⟨d, .call ⟨.value q, #[x0, x1, x2], ats⟩, ty, pos, af, g⟩) = (do let d ← Deferred.ofValue (ev e q) ((#[x0, x1, x2] : Array Operand).map (ev e)); invoke d.target d.args) := rfl
    have e2 : (#[x0, x1, x2] : Array Operand).map (ev e) = #[v0, v1, v2] := by simp [h0, h1, h2]
    rw [e1, hq, e2]
    simp only [Deferred.ofValue, Sem.run_bind, Sem.run_pure, Result.andThen_ok, invoke]
    exact x_callFunc
  unfold OwpE
  rw [hr]
  exact Calls.mono hc fun r w' ⟨v, he, hv⟩ => ⟨v, he, hK v w' hv⟩

theorem o_f33 {f : Nat} {fn : Func} {q : Operand} {x0 x1 x2 : Operand} {v0 v1 v2 u0 u1 u2 : Value} {ats : Array Nat} {Post : Value → World → Prop} [hf : Fnc P f fn] (hq : ev e q = .func (.func f) #[] #[u0, u1, u2]) (h0 : ev e x0 = v0) (h1 : ev e x1 = v1) (h2 : ev e x2 = v2) (hc : Cl P f #[v0, v1, v2, u0, u1, u2] w Post) (hK : ∀ v w', Post v w' → K v w') : OwpE P ⟨d, .call ⟨.value q, #[x0, x1, x2], ats⟩, ty, pos, af, g⟩ e w K := by
  have hr : (execOp (ev e) ⟨d, .call ⟨.value q, #[x0, x1, x2], ats⟩, ty, pos, af, g⟩).run P w = .ok (.enter f #[v0, v1, v2, u0, u1, u2]) w := by
    have e1 : (execOp (ev e) ⟨d, .call ⟨.value q, #[x0, x1, x2], ats⟩, ty, pos, af, g⟩) = (do let d ← Deferred.ofValue (ev e q) ((#[x0, x1, x2] : Array Operand).map (ev e)); invoke d.target d.args) := rfl
    have e2 : (#[x0, x1, x2] : Array Operand).map (ev e) = #[v0, v1, v2] := by simp [h0, h1, h2]
    rw [e1, hq, e2]
    simp only [Deferred.ofValue, Sem.run_bind, Sem.run_pure, Result.andThen_ok, invoke]
    exact x_callFunc
  unfold OwpE
  rw [hr]
  exact Calls.mono hc fun r w' ⟨v, he, hv⟩ => ⟨v, he, hK v w' hv⟩

theorem o_f34 {f : Nat} {fn : Func} {q : Operand} {x0 x1 x2 : Operand} {v0 v1 v2 u0 u1 u2 u3 : Value} {ats : Array Nat} {Post : Value → World → Prop} [hf : Fnc P f fn] (hq : ev e q = .func (.func f) #[] #[u0, u1, u2, u3]) (h0 : ev e x0 = v0) (h1 : ev e x1 = v1) (h2 : ev e x2 = v2) (hc : Cl P f #[v0, v1, v2, u0, u1, u2, u3] w Post) (hK : ∀ v w', Post v w' → K v w') : OwpE P ⟨d, .call ⟨.value q, #[x0, x1, x2], ats⟩, ty, pos, af, g⟩ e w K := by
  have hr : (execOp (ev e) ⟨d, .call ⟨.value q, #[x0, x1, x2], ats⟩, ty, pos, af, g⟩).run P w = .ok (.enter f #[v0, v1, v2, u0, u1, u2, u3]) w := by
    have e1 : (execOp (ev e) ⟨d, .call ⟨.value q, #[x0, x1, x2], ats⟩, ty, pos, af, g⟩) = (do let d ← Deferred.ofValue (ev e q) ((#[x0, x1, x2] : Array Operand).map (ev e)); invoke d.target d.args) := rfl
    have e2 : (#[x0, x1, x2] : Array Operand).map (ev e) = #[v0, v1, v2] := by simp [h0, h1, h2]
    rw [e1, hq, e2]
    simp only [Deferred.ofValue, Sem.run_bind, Sem.run_pure, Result.andThen_ok, invoke]
    exact x_callFunc
  unfold OwpE
  rw [hr]
  exact Calls.mono hc fun r w' ⟨v, he, hv⟩ => ⟨v, he, hK v w' hv⟩

theorem o_f35 {f : Nat} {fn : Func} {q : Operand} {x0 x1 x2 : Operand} {v0 v1 v2 u0 u1 u2 u3 u4 : Value} {ats : Array Nat} {Post : Value → World → Prop} [hf : Fnc P f fn] (hq : ev e q = .func (.func f) #[] #[u0, u1, u2, u3, u4]) (h0 : ev e x0 = v0) (h1 : ev e x1 = v1) (h2 : ev e x2 = v2) (hc : Cl P f #[v0, v1, v2, u0, u1, u2, u3, u4] w Post) (hK : ∀ v w', Post v w' → K v w') : OwpE P ⟨d, .call ⟨.value q, #[x0, x1, x2], ats⟩, ty, pos, af, g⟩ e w K := by
  have hr : (execOp (ev e) ⟨d, .call ⟨.value q, #[x0, x1, x2], ats⟩, ty, pos, af, g⟩).run P w = .ok (.enter f #[v0, v1, v2, u0, u1, u2, u3, u4]) w := by
    have e1 : (execOp (ev e) ⟨d, .call ⟨.value q, #[x0, x1, x2], ats⟩, ty, pos, af, g⟩) = (do let d ← Deferred.ofValue (ev e q) ((#[x0, x1, x2] : Array Operand).map (ev e)); invoke d.target d.args) := rfl
    have e2 : (#[x0, x1, x2] : Array Operand).map (ev e) = #[v0, v1, v2] := by simp [h0, h1, h2]
    rw [e1, hq, e2]
    simp only [Deferred.ofValue, Sem.run_bind, Sem.run_pure, Result.andThen_ok, invoke]
    exact x_callFunc
  unfold OwpE
  rw [hr]
  exact Calls.mono hc fun r w' ⟨v, he, hv⟩ => ⟨v, he, hK v w' hv⟩

end

end K
end Go.Proofs.Ytbcpabfemejlgaa
