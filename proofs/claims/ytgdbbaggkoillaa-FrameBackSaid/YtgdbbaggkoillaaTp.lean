/- What event.Take takes: plain. -/
import Derived.Test.YtgdbbaggkoillaaTk
import Derived.Test.YtgdbbaggkoillaaEf
namespace Go.Proofs.Ytgdbbaggkoillaa
open K
def tOne (low high : Int) (s : List UInt8) (e : Int) : Int × List UInt8 × Int :=
  if e ≠ 0 then (low, s, e) else match s with
  | [] => (low, [], 2)
  | c :: s' => (c.toNat, s', if (c.toNat : Int) < low ∨ high < (c.toNat : Int) then 3 else 0)
def tNum (low high : Int) (s : List UInt8) (e : Int) : Int × List UInt8 × Int :=
  if e ≠ 0 ∨ (vtake s).2.2 ≠ 0 then (low, s, if e = 0 then (vtake s).2.2 else e)
  else (IntKind.i64.wrap (vtake s).1, s.drop (vtake s).2.1, if ((vtake s).1 : Int) < low ∨ high < ((vtake s).1 : Int) then 3 else 0)
def tWords (most : Int) (s : List UInt8) (e : Int) : List UInt8 × List UInt8 × Int :=
  if (tOne 1 most s e).2.2 ≠ 0 ∨ ((tOne 1 most s e).2.1.length : Int) < (tOne 1 most s e).1 then ([], (tOne 1 most s e).2.1, if (tOne 1 most s e).2.2 = 0 then 2 else (tOne 1 most s e).2.2)
  else ((tOne 1 most s e).2.1.take (tOne 1 most s e).1.toNat, (tOne 1 most s e).2.1.drop (tOne 1 most s e).1.toNat, (tOne 1 most s e).2.2)

theorem tOne_ok {low high : Int} {s : List UInt8} {e : Int} (h : (tOne low high s e).2.2 = 0) : e = 0 ∧ low ≤ (tOne low high s e).1 ∧ (tOne low high s e).1 ≤ high ∧ ∃ c, s = c :: (tOne low high s e).2.1 ∧ (tOne low high s e).1 = c.toNat := by
  unfold tOne at h ⊢
  by_cases he : e ≠ 0
  · rw [if_pos he] at h; exact absurd h he
  rw [if_neg he] at h ⊢
  cases s with
  | nil => cases h
  | cons c s =>
    simp only at h ⊢
    by_cases hq : (c.toNat : Int) < low ∨ high < (c.toNat : Int)
    · rw [if_pos hq] at h; cases h
    · exact ⟨by omega, by omega, by omega, c, rfl, rfl⟩
theorem tOne_le {low high : Int} {s : List UInt8} {e : Int} : (tOne low high s e).2.1.length ≤ s.length := by
  unfold tOne
  split
  · exact Nat.le_refl _
  · cases s with
    | nil => exact Nat.le_refl _
    | cons c s => simp
/-! ### what is taken -/
def tStep (r : Int) (i : Nat) (q : Clk × List UInt8 × Int) : Clk × List UInt8 × Int :=
  if (i : Int) ≠ r then (q.1.set i (tNum 0 1048576 q.2.1 q.2.2).1, (tNum 0 1048576 q.2.1 q.2.2).2.1, (tNum 0 1048576 q.2.1 q.2.2).2.2) else q
def tCtx (r : Int) (s : List UInt8) (e : Int) : Nat → Clk × List UInt8 × Int
  | 0 => (clk0, s, e)
  | i + 1 => tStep r i (tCtx r s e i)
def tKeyE (key : List UInt8) (e : Int) : Int := if keyOk key then e else if e = 0 then 3 else e
/-- The fields, what is left, and what is wrong. -/
def takeS (b : List UInt8) : Ev × List UInt8 × Int :=
  let k := tOne 1 5 b 0
  let r := tOne 0 4 k.2.1 k.2.2
  let n := tNum 1 1048576 r.2.1 r.2.2
  let c := tCtx r.1 n.2.1 n.2.2 5
  let h := tNum 1 16777216 c.2.1 c.2.2
  let y := tWords 8 h.2.1 h.2.2
  let e := tKeyE y.1 y.2.2
  if 2 < k.1 then
    let l := tOne 0 1 y.2.1 e
    let v := tWords 12 l.2.1 l.2.2
    (⟨r.1, n.1, c.1, h.1, k.1, y.1, l.1, v.1⟩, v.2.1, v.2.2)
  else (⟨r.1, n.1, c.1, h.1, k.1, y.1, 0, []⟩, y.2.1, e)
def evZ : Ev := ⟨0, 0, clk0, 0, 0, [], 0, []⟩
def takeFin (len : Nat) (t : Ev × List UInt8 × Int) : Ev × Int × Int :=
  if t.2.2 ≠ 0 then (evZ, 0, t.2.2)
  else ({ t.1 with c := t.1.c.set t.1.r.toNat (t.1.n - 1) }, ((len - t.2.1.length : Nat) : Int), 0)
def takeE (b : List UInt8) : Ev × Int × Int := takeFin b.length (takeS b)
theorem tNum_le {low high : Int} {s : List UInt8} {e : Int} : (tNum low high s e).2.1.length ≤ s.length := by
  unfold tNum
  split
  · exact Nat.le_refl _
  · simp
theorem tWords_le {most : Int} {s : List UInt8} {e : Int} : (tWords most s e).2.1.length ≤ s.length := by
  have := @tOne_le 1 most s e
  unfold tWords
  split
  · exact this
  · simp; omega
theorem tCtx_le {r : Int} {s : List UInt8} {e : Int} : ∀ i, (tCtx r s e i).2.1.length ≤ s.length
  | 0 => Nat.le_refl _
  | i + 1 => by
    have h1 := @tCtx_le r s e i
    show (tStep r i (tCtx r s e i)).2.1.length ≤ s.length
    unfold tStep
    split
    · exact Nat.le_trans tNum_le h1
    · exact h1


theorem tNum_ok {low high : Int} (hh : high ≤ 4611686018427387904) {s : List UInt8} {e : Int} (h : (tNum low high s e).2.2 = 0) : e = 0 ∧ ∃ n : Nat, (tNum low high s e).1 = n ∧ low ≤ n ∧ (n : Int) ≤ high ∧ s = vput n ++ (tNum low high s e).2.1 := by
  unfold tNum at h ⊢
  by_cases hc : e ≠ 0 ∨ (vtake s).2.2 ≠ 0
  · rw [if_pos hc] at h
    simp only at h
    split at h
    · rename_i he
      rcases hc with hc | hc
      · exact absurd he hc
      · exact absurd h hc
    · rename_i he; exact absurd h he
  rw [if_neg hc] at h ⊢
  simp only at h ⊢
  have hr : ¬ (((vtake s).1 : Int) < low ∨ high < ((vtake s).1 : Int)) := fun hr => by rw [if_pos hr] at h; cases h
  have he : e = 0 ∧ (vtake s).2.2 = 0 := by omega
  generalize hv : vtake s = t at *
  obtain ⟨n, k, x⟩ := t
  obtain ⟨rfl, rfl⟩ := he
  obtain ⟨h1, h2, h3, _⟩ := vtake_ok hv
  refine ⟨rfl, n, wi (by omega) (by omega), by omega, by omega, ?_⟩
  show s = vput n ++ s.drop k
  rw [← h1, List.take_append_drop]
theorem tCtx_e {r : Int} {s : List UInt8} {e : Int} : ∀ i, (tCtx r s e i).2.2 = 0 → e = 0
  | 0, h => h
  | i + 1, h => by
    have h1 : (tStep r i (tCtx r s e i)).2.2 = 0 := h
    unfold tStep at h1
    split at h1
    · exact tCtx_e i (tNum_ok (by decide) h1).1
    · exact tCtx_e i h1
theorem tWords_ok {most : Int} {s : List UInt8} {e : Int} (h : (tWords most s e).2.2 = 0) : e = 0 ∧ 1 ≤ (tWords most s e).1.length ∧ ((tWords most s e).1.length : Int) ≤ most ∧ s = UInt8.ofNat (tWords most s e).1.length :: (tWords most s e).1 ++ (tWords most s e).2.1 := by
  unfold tWords at h ⊢
  by_cases hc : (tOne 1 most s e).2.2 ≠ 0 ∨ ((tOne 1 most s e).2.1.length : Int) < (tOne 1 most s e).1
  · rw [if_pos hc] at h
    simp only at h
    split at h
    · cases h
    · rename_i he; exact absurd h he
  rw [if_neg hc] at h ⊢
  simp only at h ⊢
  obtain ⟨he, h1, h2, ch, h3, h4⟩ := tOne_ok h
  generalize tOne 1 most s e = t at *
  obtain ⟨n, s', e'⟩ := t
  simp only at *
  have hl : (s'.take n.toNat).length = n.toNat := by rw [List.length_take]; omega
  refine ⟨he, by omega, by omega, ?_⟩
  rw [hl, h3, h4]
  have : UInt8.ofNat ((ch.toNat : Int)).toNat = ch := by simp
  rw [this]
  simp
theorem tKeyE_ok {key : List UInt8} {e : Int} (h : tKeyE key e = 0) : e = 0 ∧ keyOk key = true := by
  unfold tKeyE at h
  split at h
  · exact ⟨h, by assumption⟩
  · split at h
    · cases h
    · rename_i he; exact absurd h he
structure TakeIn (x : Ev) : Prop where
  r0 : 0 ≤ x.r
  r5 : x.r < 5
  n1 : 1 ≤ x.n
  n2 : x.n ≤ 1048576
theorem takeS_in (b : List UInt8) (h : (takeS b).2.2 = 0) : TakeIn (takeS b).1 := by
  unfold takeS at h ⊢
  dsimp only at h ⊢
  generalize hq1 : tOne 1 5 b 0 = q1 at *
  obtain ⟨kd, s1, e1⟩ := q1
  dsimp only at h ⊢
  generalize hq2 : tOne 0 4 s1 e1 = q2 at *
  obtain ⟨r, s2, e2⟩ := q2
  dsimp only at h ⊢
  generalize hq3 : tNum 1 1048576 s2 e2 = q3 at *
  obtain ⟨n, s3, e3⟩ := q3
  dsimp only at h ⊢
  have e5 : ∀ {c : Clk × List UInt8 × Int}, c = tCtx r s3 e3 5 → ∀ {y : List UInt8 × List UInt8 × Int}, y = tWords 8 (tNum 1 16777216 c.2.1 c.2.2).2.1 (tNum 1 16777216 c.2.1 c.2.2).2.2 → tKeyE y.1 y.2.2 = 0 → e3 = 0 := by
    intro c hc y hy h
    have h1 := (tKeyE_ok h).1
    rw [hy] at h1
    have h2 := (tNum_ok (by decide) (tWords_ok h1).1).1
    rw [hc] at h2
    exact tCtx_e 5 h2
  have key : e3 = 0 → TakeIn ⟨r, n, (tCtx r s3 e3 5).1, (tNum 1 16777216 (tCtx r s3 e3 5).2.1 (tCtx r s3 e3 5).2.2).1, kd, [], 0, []⟩ := by
    intro he
    subst he
    have h3 := tNum_ok (low := 1) (high := 1048576) (by decide) (s := s2) (e := e2) (by rw [hq3])
    rw [hq3] at h3
    obtain ⟨he2, m, hm, h4, h5, _⟩ := h3
    subst he2
    have h6 := tOne_ok (low := 0) (high := 4) (s := s1) (e := e1) (by rw [hq2])
    rw [hq2] at h6
    dsimp only at hm h6
    exact ⟨h6.2.1, by have := h6.2.2.1; show r < 5; omega, by show 1 ≤ n; omega, by show n ≤ 1048576; omega⟩
  by_cases hk : 2 < kd
  · rw [if_pos hk] at h ⊢
    have h1 := (tOne_ok (tWords_ok h).1).1
    have := key (e5 rfl rfl h1)
    exact ⟨this.r0, this.r5, this.n1, this.n2⟩
  · rw [if_neg hk] at h ⊢
    have := key (e5 rfl rfl h)
    exact ⟨this.r0, this.r5, this.n1, this.n2⟩
end Go.Proofs.Ytgdbbaggkoillaa
