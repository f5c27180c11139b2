/- A record that is handed in, opened; a list of events; a list of records. -/
import Derived.Test.YtgdbbaggkoillaaLb
import Derived.Test.YtgdbbaggkoillaaRc
import Derived.DataReads
namespace Go.Proofs.Ytgdbbaggkoillaa
open Go.ChangeShapes Go.WideShapes Go.ChangeAt Go.RowKit
open K
set_option maxRecDepth 100000
section
variable {H : Type} {enc : TypeId × Value → H} {w : World} {base : Nat} {sp : Nat → Bool} {held : Bool}
theorem weightsAll_in {P : Program} {e : TypeId} : ∀ {l : List (DataW H)} {d : DataW H}, d ∈ l → ∀ n ∈ d.weights P e, n ∈ DataW.weightsAll P e l
  | d' :: l, d, h, n, hn => by
    rw [DataW.weightsAll, List.mem_append]
    rcases List.mem_cons.1 h with rfl | h
    · exact .inl hn
    · exact .inr (weightsAll_in h n hn)
theorem flat_get {α : Type} (C : α → List Value) (n : Nat) (hn : 0 < n) (hC : ∀ x, (C x).length = n) : ∀ (l : List α) (j : Nat), (l.flatMap C)[j]? = (l[j / n]?).bind fun x => (C x)[j % n]?
  | [], j => by simp
  | x :: l, j => by
    rw [List.flatMap_cons]
    by_cases hj : j < n
    · rw [List.getElem?_append_left (by rw [hC]; exact hj), Nat.div_eq_of_lt hj, Nat.mod_eq_of_lt hj]; rfl
    · rw [List.getElem?_append_right (by rw [hC]; omega), hC, flat_get C n hn hC l (j - n)]
      have h1 : j / n = (j - n) / n + 1 := by rw [Nat.div_eq_sub_div hn (by omega)]
      have h2 : j % n = (j - n) % n := Nat.mod_eq_sub_mod (by omega)
      rw [h1, h2]; rfl
theorem trod_rows {α : Type} {P : Program} {t e n fuel : Nat} {cs : List Value} {y : DataW H × List MemPlace} (C : α → List Value) (Q : α → DataW H → Prop) (ht : P.underlying t = some (.slice e)) (hc : P.cellsOf e = n) (hn : 0 < n) (hC : ∀ x, (C x).length = n)
    (each : ∀ fuel cs y, DataW.trod enc P w base sp held fuel e cs = some y → ∃ x, cs = C x ∧ Q x y.1) (h : DataW.trod enc P w base sp held fuel t cs = some y) :
    ∃ (a : Option Addr) (l : List α) (cap : Nat), cs = [.slice a l.length cap] ∧ l.length ≤ cap ∧ cap ≤ maxLen ∧ Cells w a (l.flatMap C) ∧
      ((l = [] ∧ y.1 = .nil) ∨ ∃ ds spare, y.1 = .slice ds spare ∧ ds.length = l.length ∧ ∀ (i : Nat) (hi : i < l.length) (hd : i < ds.length), Q l[i] ds[i]) := by
  rcases DataW.trod_slice ht h with ⟨h1, h2⟩ | ⟨a, len, cap, elems, rest, m, _, rfl, rfl, hb, hl, hm, hlen, hel, hsp, hns⟩
  · exact ⟨none, [], 0, h1, Nat.le_refl _, Nat.zero_le _, Cells.nil _ _, .inl ⟨rfl, by rw [h2]⟩⟩
  · have hx : ∀ i : Fin len, ∃ x, (w.cells? base (a.add (i.1 * n)) n) = some (C x) ∧ ∃ z, elems[i.1]? = some z ∧ Q x z.1 := by
      intro i
      have hi := i.2
      have h1 := hel i.1 hi
      have h2 : i.1 < elems.length := by omega
      rw [List.getElem?_eq_getElem h2, Option.bind_eq_some_iff, hc] at h1
      obtain ⟨cs', h3, h4⟩ := h1
      obtain ⟨x, rfl, hq⟩ := each _ _ _ h4
      exact ⟨x, h3, _, List.getElem?_eq_getElem h2, hq⟩
    refine ⟨some a, List.ofFn fun i => Classical.choose (hx i), cap, by rw [List.length_ofFn], by rw [List.length_ofFn]; exact hl, hm, ?_, .inr ⟨elems.map (·.1), rest.map (·.1), rfl, by rw [List.length_map, List.length_ofFn]; exact hlen, ?_⟩⟩
    · intro j v hj
      rw [nth_eq, flat_get C n hn hC, Option.bind_eq_some_iff] at hj
      obtain ⟨x, hx1, hx2⟩ := hj
      obtain ⟨hlt, hget⟩ := List.getElem?_eq_some_iff.1 hx1
      rw [List.length_ofFn] at hlt
      rw [List.getElem_ofFn] at hget
      have hspec := Classical.choose_spec (hx ⟨j / n, hlt⟩)
      rw [hget] at hspec
      have h5 := (World.cells?_some hspec.1).2.2 (j % n) (Nat.mod_lt _ hn)
      refine ⟨a, rfl, ?_⟩
      rw [Addr.add_add] at h5
      have h6 : j / n * n + j % n = j := by rw [Nat.mul_comm]; exact Nat.div_add_mod j n
      rw [h6] at h5
      rw [h5]; exact hx2
    · intro i hi hd
      rw [List.length_ofFn] at hi
      rw [List.getElem_ofFn, List.getElem_map]
      obtain ⟨_, z, hz, hq⟩ := Classical.choose_spec (hx ⟨i, hi⟩)
      obtain ⟨hz1, hz2⟩ := List.getElem?_eq_some_iff.1 hz
      have h7 : elems[i] = z := hz2
      rw [h7]; exact hq
theorem cells41 : Try.prog.cellsOf 41 = 1 := by kernel_rfl
theorem cells43 : Try.prog.cellsOf 43 = 9 := by kernel_rfl
theorem bytes25 : Try.prog.bytesOf 25 = 112 := by kernel_rfl
theorem trod_evs {fuel : Nat} {cs : List Value} {y : DataW H × List MemPlace} (h : DataW.trod enc Try.prog w base sp held fuel 41 cs = some y) :
    ∃ (a : Option Addr) (l : List Ev) (cap : Nat), cs = [.slice a l.length cap] ∧ l.length ≤ cap ∧ Cells w a (evsC l) ∧ ((y.1.weights Try.prog 41).all (· ≤ reachBytes) = true → l.length < 2 ^ 47 ∧ ∀ x ∈ l, EvIn x) := by
  obtain ⟨a, l, cap, h1, h2, _, h3, h4⟩ := trod_rows (C := evC) (Q := fun x d => d = evD H x ∧ (((evD H x).weights Try.prog 25).all (· ≤ reachBytes) = true → EvIn x)) Try.underlying41 cells25 (by decide) evC_length
    (fun fuel cs y hh => by
      obtain ⟨x, hx1, hx2, hx3⟩ := trod_ev hh
      exact ⟨x, hx1, by rw [hx2], hx3⟩) h
  refine ⟨a, l, cap, h1, h2, h3, fun hw => ?_⟩
  rcases h4 with ⟨rfl, _⟩ | ⟨ds, spare, hy, hdl, hq⟩
  · exact ⟨by decide, fun x hx => by cases hx⟩
  · rw [hy] at hw
    simp only [DataW.weights, Try.underlying41, List.all_cons, List.all_append, Bool.and_eq_true, decide_eq_true_eq, bytes25] at hw
    refine ⟨?_, fun x hx => ?_⟩
    · have := reachBytes_lt
      have := hw.1
      omega
    · obtain ⟨i, hi, rfl⟩ := List.mem_iff_getElem.1 hx
      have hd : i < ds.length := by omega
      obtain ⟨e1, e2⟩ := hq i hi hd
      refine e2 (List.all_eq_true.2 fun m hm => ?_)
      exact List.all_eq_true.1 hw.2.1 m (weightsAll_in (List.getElem_mem hd) m (by rw [e1]; exact hm))
def recD (H : Type) (x : Rec) (d : DataW H) : DataW H := .agg [.lit (.int .i64 x.kind), .lit (.int .i64 x.r), .lit (.int .i64 x.upto), .agg [.lit (.int .i64 x.c.c0), .lit (.int .i64 x.c.c1), .lit (.int .i64 x.c.c2), .lit (.int .i64 x.c.c3), .lit (.int .i64 x.c.c4)], d]
theorem list9 {α : Type} {l : List α} (h : l.length = 9) : ∃ a0 a1 a2 a3 a4 a5 a6 a7 a8, l = [a0, a1, a2, a3, a4, a5, a6, a7, a8] := by
  match l, h with
  | [a0, a1, a2, a3, a4, a5, a6, a7, a8], _ => exact ⟨a0, a1, a2, a3, a4, a5, a6, a7, a8, rfl⟩
theorem trod_rec {n : Nat} {cs : List Value} {y : DataW H × List MemPlace} (h : DataW.trod enc Try.prog w base sp held n 43 cs = some y) :
    ∃ (x : Rec) (a : Option Addr) (cap : Nat) (d : DataW H), cs = recV x a cap ∧ x.es.length ≤ cap ∧ Cells w a (evsC x.es) ∧ y.1 = recD H x d ∧ (((recD H x d).weights Try.prog 43).all (· ≤ reachBytes) = true → RecIn x) := by
  obtain ⟨xs, m, _, hx, hl, hlen, hf⟩ := DataW.trod_struct Try.underlying43 h
  obtain ⟨y0, y1, y2, y3, y4, rfl⟩ := list5 hlen
  rw [cells43] at hl
  obtain ⟨c0, c1, c2, c3, c4, c5, c6, c7, c8, rfl⟩ := list9 hl
  have g0 : DataW.trod enc Try.prog w base sp held m 3 (List.take (Try.prog.cellsOf 3) _) = _ := hf 0 _ rfl
  rw [cells3] at g0
  have g1 : DataW.trod enc Try.prog w base sp held m 3 (List.take (Try.prog.cellsOf 3) _) = _ := hf 1 _ rfl
  rw [cells3] at g1
  have g2 : DataW.trod enc Try.prog w base sp held m 3 (List.take (Try.prog.cellsOf 3) _) = _ := hf 2 _ rfl
  rw [cells3] at g2
  have g3 : DataW.trod enc Try.prog w base sp held m 23 (List.take (Try.prog.cellsOf 23) _) = _ := hf 3 _ rfl
  rw [cells23] at g3
  have g4 : DataW.trod enc Try.prog w base sp held m 41 (List.take (Try.prog.cellsOf 41) _) = _ := hf 4 _ rfl
  rw [cells41] at g4
  obtain ⟨n0, e0, rfl, w0⟩ := DataW.trod_int Try.underlying3 g0
  obtain ⟨n1, e1, rfl, w1⟩ := DataW.trod_int Try.underlying3 g1
  obtain ⟨n2, e2, rfl, w2⟩ := DataW.trod_int Try.underlying3 g2
  obtain ⟨c, e3, rfl, w3⟩ := trod_clk g3
  obtain ⟨a, l, cap, e4, hcap, hcell, w4⟩ := trod_evs g4
  refine ⟨⟨n0, n1, n2, c, l⟩, a, cap, y4.1, ?_, hcap, hcell, by rw [hx]; rfl, ?_⟩
  · injection e0 with e0; injection e1 with e1; injection e2 with e2; injection e4 with e4
    injection e3 with q0 e3; injection e3 with q1 e3; injection e3 with q2 e3; injection e3 with q3 e3; injection e3 with q4 e3
    subst e0; subst e1; subst e2; subst e4; subst q0; subst q1; subst q2; subst q3; subst q4
    rfl
  · intro hw
    simp only [recD, DataW.weights, Try.underlying43, Try.underlying23, Try.underlying3, DataW.weightsEach, DataW.weightsAll, List.map, List.nil_append, List.append_nil] at hw
    obtain ⟨h47, hes⟩ := w4 hw
    exact ⟨i64_wf w0, i64_wf w1, i64_wf w2, w3, h47, hes⟩
theorem open_rec {b0 : Nat} {v : Value} {d : DataW H} {p : List MemPlace} (hv : Value.okWide Try.prog w .any b0 43 v) (h : DataW.Trod enc Try.prog w base sp held 43 v d p)
    (hw : (d.weights Try.prog 43).all (· ≤ reachBytes) = true) : ∃ (x : Rec) (a : Option Addr) (cap : Nat), v = .agg (recV x a cap).toArray ∧ x.es.length ≤ cap ∧ Cells w a (evsC x.es) ∧ RecIn x := by
  obtain ⟨⟨l⟩, rfl, hsz⟩ := okWide_struct Try.underlying43 hv
  obtain ⟨fuel, hf⟩ := h
  obtain ⟨x, a, cap, d', hc, hcap, hcell, hy, hin⟩ := trod_rec (show DataW.trod enc Try.prog w base sp held fuel 43 l = some (d, p) from hf)
  subst hc
  have hy : d = recD H x d' := hy
  subst hy
  exact ⟨x, a, cap, rfl, hcap, hcell, hin hw⟩
end
end Go.Proofs.Ytgdbbaggkoillaa
