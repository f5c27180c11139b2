/- Lists of records in memory; where reading them stops: plain. -/
import Derived.Test.YtgdbbaggkoillaaRv
import Derived.Test.YtgdbbaggkoillaaKo
import Derived.Test.YtgdbbaggkoillaaTk
namespace Go.Proofs.Ytgdbbaggkoillaa
open K

abbrev RecM := Rec × Option Addr × Nat
def rmC (m : RecM) : List Value := recV m.1 m.2.1 m.2.2
def rmsC (l : List RecM) : List Value := l.flatMap rmC
theorem rmC_length (m : RecM) : (rmC m).length = 9 := rfl
theorem flatC_get {α : Type} (C : α → List Value) (n : Nat) (hC : ∀ x, (C x).length = n) : ∀ (l : List α) (i : Nat) (h : i < l.length) (f : Nat), f < n → nth (l.flatMap C) (i * n + f) = nth (C l[i]) f
  | x :: l, 0, _, f, hf => by
    rw [nth_eq, nth_eq, List.flatMap_cons, Nat.zero_mul, Nat.zero_add, List.getElem?_append_left (by rw [hC]; exact hf)]; rfl
  | x :: l, i + 1, h, f, hf => by
    have h1 : i < l.length := by simpa using h
    have ih := flatC_get C n hC l i h1 f hf
    rw [nth_eq] at ih ⊢
    rw [List.flatMap_cons, List.getElem?_append_right (by rw [hC, Nat.add_mul]; omega), hC, show (i + 1) * n + f - n = i * n + f from by rw [Nat.add_mul]; omega, ih]; rfl
theorem flatC_seg {α : Type} (C : α → List Value) (n : Nat) (hC : ∀ x, (C x).length = n) : ∀ (l : List α) (i : Nat) (h : i < l.length) (f k : Nat), f + k ≤ n → seg (l.flatMap C) (i * n + f) k = seg (C l[i]) f k
  | x :: l, 0, _, f, k, hf => by
    unfold seg
    rw [List.flatMap_cons, Nat.zero_mul, Nat.zero_add, List.drop_append_of_le_length (by rw [hC]; omega), List.take_append_of_le_length (by rw [List.length_drop, hC]; omega)]; rfl
  | x :: l, i + 1, h, f, k, hf => by
    have h1 : i < l.length := by simpa using h
    have ih := flatC_seg C n hC l i h1 f k hf
    unfold seg at ih ⊢
    rw [List.flatMap_cons, show (i + 1) * n + f = (C x).length + (i * n + f) from by rw [hC, Nat.add_mul]; omega, List.drop_append, List.drop_of_length_le (Nat.le_add_right _ _), List.nil_append, Nat.add_sub_cancel_left, ih]; rfl
theorem flatC_length {α : Type} (C : α → List Value) (n : Nat) (hC : ∀ x, (C x).length = n) : ∀ l : List α, (l.flatMap C).length = l.length * n
  | [] => by simp
  | x :: l => by rw [List.flatMap_cons, List.length_append, hC, flatC_length C n hC l, List.length_cons, Nat.add_mul]; omega
theorem rmsC_length (l : List RecM) : (rmsC l).length = l.length * 9 := flatC_length rmC 9 rmC_length l
theorem rmsC_append (l m : List RecM) : rmsC (l ++ m) = rmsC l ++ rmsC m := List.flatMap_append
theorem ones_rms : ∀ l : List RecM, ones (rmsC l) = true
  | [] => rfl
  | x :: l => by
    have h : rmsC (x :: l) = rmC x ++ rmsC l := List.flatMap_cons
    rw [h]; exact ones_append rfl (ones_rms l)
theorem rms_seg (l : List RecM) (i : Nat) (h : i < l.length) : seg (rmsC l) (((i : Nat) : Int).toNat * 9) 9 = rmC l[i] := by
  have := flatC_seg rmC 9 rmC_length l i h 0 9 (by decide)
  exact this
theorem rms_le (l : List RecM) (i : Nat) (h : i < l.length) : ((i : Nat) : Int).toNat * 9 + 9 ≤ (rmsC l).length := by rw [rmsC_length]; show i * 9 + 9 ≤ _; omega
theorem rms_nth (l : List RecM) (i : Nat) (h : i < l.length) (f : Nat) (hf : f < 9) : nth (rmsC l) (((i : Nat) : Int).toNat * 9 + f) = nth (rmC l[i]) f := flatC_get rmC 9 rmC_length l i h f hf
theorem rms_seg3 (l : List RecM) (i : Nat) (h : i < l.length) : seg (rmsC l) (((i : Nat) : Int).toNat * 9 + 3) 5 = clkC l[i].1.c := by
  have := flatC_seg rmC 9 rmC_length l i h 3 5 (by decide)
  exact this
theorem rms_le3 (l : List RecM) (i : Nat) (h : i < l.length) : ((i : Nat) : Int).toNat * 9 + 3 + 5 ≤ (rmsC l).length := by rw [rmsC_length]; show i * 9 + 3 + 5 ≤ _; omega
theorem rms_some {w : World} {a : Option Addr} {l : List RecM} (H : Cells w a (rmsC l)) {i : Nat} (h : i < l.length) : a.isSome = true := by
  have h1 := rms_nth l i h 0 (by decide)
  obtain ⟨ad, rfl, _⟩ := H _ (.int .i64 l[i].1.kind) h1
  rfl
/-- The events of these records, wherever they lie. -/
def evi (ms : List RecM) : It where
  foot := fun b => ∃ m ∈ ms, m.1.es ≠ [] ∧ m.2.1.map (·.block) = some b
  holds := fun w => ∀ m ∈ ms, Cells w m.2.1 (evsC m.1.es)
  keep := fun w w' h hk m hm j v hj => by
    obtain ⟨ad, ha, hc⟩ := h m hm j v hj
    refine ⟨ad, ha, ?_⟩
    have hne : m.1.es ≠ [] := by intro he; rw [he] at hj; cases hj
    have := hk (ad.add j).block ⟨m, hm, hne, by rw [ha, Addr.block_add]; rfl⟩
    exact (World.cell?_of_block this).trans hc
  live := fun w b h ⟨m, hm, hne, hb⟩ => by
    obtain ⟨x, l, hl⟩ := List.exists_cons_of_ne_nil hne
    obtain ⟨ad, hc, hd⟩ := h m hm 0 (.int .i64 x.r) (by rw [hl, evsC_cons]; rfl)
    rw [hc] at hb
    simp only [Option.map_some, Option.some.injEq] at hb
    have := World.block_lt_of_cell? w _ hd
    rw [Addr.block_add] at this
    omega
section
variable {w0 w : World} {F0 : Nat → Prop} {L : List It}
theorem K.Mem.evi0 (m : Mem w0 F0 w L) : Mem w0 F0 w (L ++ [evi []]) :=
  m.add (Chg.refl No w) (fun _ h => by cases h) (fun b ⟨_, h, _⟩ => by cases h)
/-- A record's events join those of the others. -/
theorem K.Mem.fuseE (m : Mem w0 F0 w L) (k k' : Nat) {ms : List RecM} {T : TypeId} {x : Rec} {a : Option Addr} {c : Nat} (hk : nth L k = some (evi ms)) (hk' : nth L k' = some (own T 12 a x.es.length c (evsC x.es))) (hkk : k ≠ k') : Mem w0 F0 w (setN (setN L k (evi (ms ++ [(x, a, c)]))) k' triv) := by
  refine m.fuse k k' hk hk' hkk ?_ ?_
  · intro y hy
    rcases List.mem_append.1 hy with hy | hy
    · exact m.ok k _ hk y hy
    · rw [List.mem_singleton.1 hy]; exact m.c k' hk'
  · rintro b ⟨y, hy, hne, hb⟩
    rcases List.mem_append.1 hy with hy | hy
    · exact .inl ⟨y, hy, hne, hb⟩
    · rw [List.mem_singleton.1 hy] at hb; exact .inr hb
theorem K.Mem.evc (m : Mem w0 F0 w L) (k : Nat) {ms : List RecM} (hk : nth L k = some (evi ms)) : ∀ y ∈ ms, Cells w y.2.1 (evsC y.1.es) := m.ok k _ hk
end

/-! ### where reading stops -/
def putsR (l : List Rec) : List UInt8 := l.flatMap putR
theorem putsR_cons (x : Rec) (l : List Rec) : putsR (x :: l) = putR x ++ putsR l := List.flatMap_cons
theorem putsR_append (l m : List Rec) : putsR (l ++ m) = putsR l ++ putsR m := List.flatMap_append
def StopR (t : List UInt8) : Prop := (vtake t).2.2 ≠ 0 ∨ t.length - (vtake t).2.1 < (vtake t).1 ∨ openL ((t.drop (vtake t).2.1).take (vtake t).1) = none
theorem stop_nil : StopR [] := .inl (by decide)
theorem stop_128 : StopR [128] := .inl (by decide)
theorem bodyR_len {x : Rec} (ok : RecOk x) : (bodyR x).length ≤ 200000 := by
  have h1 : ∀ l : List Ev, (∀ y ∈ l, evMay y = 0) → (evsB l).length ≤ 44 * l.length := by
    intro l
    induction l with
    | nil => intro _; exact Nat.le_refl _
    | cons x l ih =>
      intro h
      have h1 := putE_le x (evMay_ok (h x (List.mem_cons_self ..)))
      have h2 := ih (fun y hy => h y (List.mem_cons_of_mem _ hy))
      have h3 : evsB (x :: l) = putE x ++ evsB l := List.flatMap_cons
      rw [h3, List.length_append, List.length_cons]
      omega
  have h2 := h1 x.es ok.es
  have h3 := ok.most
  have h4 := vput_len10 x.es.length (by omega)
  have h5 := vput_len10 x.upto.toNat (by have := ok.u1; omega)
  have hc : ∀ i, i < 5 → (vput (x.c.get i).toNat).length ≤ 10 := fun i hi => vput_len10 _ (by have := ok.c i hi; omega)
  have c0 := hc 0 (by decide); have c1 := hc 1 (by decide); have c2 := hc 2 (by decide); have c3 := hc 3 (by decide); have c4 := hc 4 (by decide)
  have h6 : (clkB x.c 5).length ≤ 50 := by
    show ([0, 1, 2, 3, 4].flatMap fun i : Nat => vput (x.c.get i).toNat).length ≤ 50
    simp only [List.flatMap_cons, List.flatMap_nil, List.length_append, List.length_nil]
    omega
  unfold bodyR
  rw [List.length_append, List.length_append, List.length_append]
  have g1 : (if (parts x.kind).1 then vput x.upto.toNat else []).length ≤ 10 := by split <;> first | omega | (simp; done)
  have g2 : (if (parts x.kind).2.1 then clkB x.c 5 else []).length ≤ 50 := by split <;> first | omega | (simp; done)
  have g3 : (if (parts x.kind).2.2.1 then vput x.es.length ++ evsB x.es else []).length ≤ 190000 := by
    split
    · rw [List.length_append]; omega
    · simp
  have g0 : [UInt8.ofNat x.kind.toNat, UInt8.ofNat x.r.toNat].length = 2 := rfl
  omega
theorem vput_lenR {x : Rec} (ok : RecOk x) : (vput (sealL (bodyR x)).length).length ≤ 3 := by
  have := bodyR_len ok
  have := sealL_length (bodyR x)
  exact vput_len 2 _ (by omega)
theorem vtakeR {x : Rec} (ok : RecOk x) (rest : List UInt8) : vtake (vput (sealL (bodyR x)).length ++ rest) = ((sealL (bodyR x)).length, (vput (sealL (bodyR x)).length).length, 0) :=
  vtake_put _ (by have := vput_lenR ok; omega) rest
/-- A record that is cut stops the reading. -/
theorem stop_cut {x : Rec} (ok : RecOk x) (i : Nat) (hi : i < (putR x).length) : StopR ((putR x).take i) := by
  have h3 := vput_lenR ok
  unfold putR at hi ⊢
  rw [List.length_append] at hi
  generalize hn : (sealL (bodyR x)).length = n at *
  by_cases h : i < (vput n).length
  · left
    rw [List.take_append_of_le_length (by omega), vtake_short n i h (by omega)]
    decide
  · right; left
    have ht : (vput n ++ sealL (bodyR x)).take i = vput n ++ (sealL (bodyR x)).take (i - (vput n).length) := by
      rw [List.take_append, List.take_of_length_le (by omega)]
    rw [ht]
    have hv := vtakeR ok ((sealL (bodyR x)).take (i - (vput n).length))
    rw [hn] at hv
    rw [hv, List.length_append, List.length_take, hn]
    show (vput n).length + min (i - (vput n).length) n - (vput n).length < n
    omega
/-- So does one whose sealed bytes are turned so that they don't open. -/
theorem stop_turned {x : Rec} (ok : RecOk x) (s rest : List UInt8) (hs : s.length = (sealL (bodyR x)).length) (ho : openL s = none) : StopR (vput (sealL (bodyR x)).length ++ (s ++ rest)) := by
  right; right
  rw [vtakeR ok, List.drop_left]
  show openL ((s ++ rest).take (sealL (bodyR x)).length) = none
  rw [← hs, List.take_left]
  exact ho
end Go.Proofs.Ytgdbbaggkoillaa
