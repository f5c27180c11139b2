/- event.Take's closures: walks. -/
import Derived.Test.YtgdbbaggkoillaaTa
import Derived.Test.YtgdbbaggkoillaaTp
namespace Go.Proofs.Ytgdbbaggkoillaa
open K
set_option maxRecDepth 100000
set_option maxHeartbeats 4000000

theorem Sl.drop {w : World} {a : Option Addr} {c : Nat} {s : List UInt8} (H : Cells w a (u8s s)) (hc : s.length ≤ c) (l : Nat) (hl : l ≤ s.length) : Sl w (.slice (slA a c l 1) (s.length - l) (c - l)) (s.drop l) := by
  refine ⟨slA a c l 1, c - l, by rw [List.length_drop], by rw [List.length_drop]; omega, ?_⟩
  have := H.sl (n := s.length) (c := c) (sz := 1) (by rw [u8s_length]; omega) hc l
  rw [Nat.mul_one] at this
  unfold u8s at this ⊢
  rw [List.map_drop]
  exact this

def pE (b : Nat) : Value := .pointer (some ⟨b, 0, none⟩)
def fF (bE : Nat) : Value := .func (.func 50) #[] #[.pointer (some ⟨bE, 0, none⟩)]
def fO (bE bL bF : Nat) : Value := .func (.func 51) #[] #[.pointer (some ⟨bE, 0, none⟩), .pointer (some ⟨bL, 0, none⟩), .pointer (some ⟨bF, 0, none⟩)]
def tkL (bR bE bL bF bO : Nat) (cs : List Value) (e : Int) (v : Value) : List It :=
  [bk bR cs 25, bk bE [.int .i64 e] 29, bk bL [v] 28, bk bF [.func (.func 50) #[] #[.pointer (some ⟨bE, 0, none⟩)]] 81, bk bO [.func (.func 51) #[] #[.pointer (some ⟨bE, 0, none⟩), .pointer (some ⟨bL, 0, none⟩), .pointer (some ⟨bF, 0, none⟩)]] 82]
section
variable {w0 w : World} {bR bE bL bF bO : Nat} {cs : List Value} {er : Int} {v : Value} {s : List UInt8}
theorem c_tk1 (mm : Mem w0 No w (tkL bR bE bL bF bO cs er v)) (x : Int) : Cl Try.prog 50 #[.int .i64 x, .pointer (some ⟨bE, 0, none⟩)] w (fun r w' => r = .tuple #[] ∧ Mem w0 No w' (tkL bR bE bL bF bO cs (if er = 0 then x else er) v)) := by
  refine f_enter (args := [_, _]) Try.func50 rfl rfl ?_
  refine c_sreg rfl ?_
  refine s1 (r_ld rfl (mm.b 1 rfl) rfl) ?_
  refine s1 (r_eq rfl rfl) ?_
  refine wn ?_
  refine c_cond rfl (fun h => ?_) (fun h => (c_skip (body_n ?_)))
  · have hz : er = 0 := by simpa using h
    rw [if_pos hz]
    refine c_region rfl ?_
    refine s1 (r_mvi rfl) ?_
    refine ss (o_st mm 1 rfl rfl rfl rfl rfl fun w2 mm => ?_)
    refine wn (body_n ?_)
    exact ret0 rfl ⟨rfl, mm⟩
  have hz : ¬ er = 0 := by simpa using h
  rw [if_neg hz]
  exact ret0 rfl ⟨rfl, mm⟩

theorem c_tk2 (mm : Mem w0 No w (tkL bR bE bL bF bO cs er v)) (hs : Sl w0 v s) (hl : s.length ≤ 4611686018427387904) (low high : Int) : Cl Try.prog 51 #[.int .i64 low, .int .i64 high, .pointer (some ⟨bE, 0, none⟩), .pointer (some ⟨bL, 0, none⟩), .pointer (some ⟨bF, 0, none⟩)] w
    (fun r w' => ∃ v', r = .int .i64 (tOne low high s er).1 ∧ Mem w0 No w' (tkL bR bE bL bF bO cs (tOne low high s er).2.2 v') ∧ Sl w0 v' (tOne low high s er).2.1) := by
  obtain ⟨a, c, rfl, hc, H⟩ := hs
  refine f_enter (args := [_, _, _, _, _]) Try.func51 rfl rfl ?_
  refine c_sreg rfl ?_
  refine s1 (r_asi rfl) ?_
  refine wn ?_
  refine c_seq ?_
  refine c_sreg rfl ?_
  refine s1 (r_ld rfl (mm.b 1 rfl) rfl) ?_
  refine s1 (r_ne rfl rfl) ?_
  refine s1 (r_mvb rfl) ?_
  refine sF rfl rfl (fun h => r_ld rfl (mm.b 2 rfl) rfl) ?_
  refine sF rfl rfl (fun h => r_len (sel_t h :)) ?_
  refine sF rfl rfl (fun h => r_eq (sel_t h :) rfl) ?_
  refine s1 (r_or rfl rfl) ?_
  refine wn ?_
  refine c_cond rfl (fun h => ?_) (fun h => (c_skip (t_n ?_)))
  · have hq : er ≠ 0 ∨ s = [] := by
      simp at h
      rcases h with h | h
      · exact .inl h
      · exact .inr h
    have ht : tOne low high s er = (low, s, if er = 0 then 2 else er) := by
      unfold tOne
      rcases hq with hq | hq
      · rw [if_pos hq, if_neg hq]
      · by_cases he : er = 0
        · rw [if_neg (by simp [he]), if_pos he, hq]
        · rw [if_pos he, if_neg he]
    rw [ht]
    refine c_sreg rfl ?_
    refine s1 (r_ld rfl (mm.b 3 rfl) rfl) ?_
    refine so (o_f11 rfl rfl (c_tk1 mm 2) ?_)
    rintro _ w2 ⟨rfl, mm⟩
    refine wn ?_
    refine c_sreg rfl ?_
    refine s1 (r_mvi rfl) ?_
    refine s1 (r_asi rfl) ?_
    refine wn ?_
    exact c_ret (ret1 rfl rfl ⟨_, rfl, mm, a, c, rfl, hc, H⟩)
  have hq : er = 0 ∧ s ≠ [] := by
    simp at h
    exact h
  obtain ⟨rfl, hne⟩ := hq
  cases s with
  | nil => exact absurd rfl hne
  | cons x s =>
  have hx := x.toNat_lt
  have ht : tOne low high (x :: s) 0 = ((x.toNat : Int), s, if (x.toNat : Int) < low ∨ high < (x.toNat : Int) then 3 else 0) := rfl
  rw [ht]
  clear h
  refine c_sreg rfl ?_
  refine s1 (r_ld rfl (mm.b 2 rfl) rfl) ?_
  refine s1 (r_ix rfl rfl (by decide) (by simp) (H.some (j := 0) rfl)) ?_
  refine s1 (r_ldc rfl (mm.ro H) rfl) ?_
  refine s1 (r_cv rfl (wu8i x)) ?_
  refine s1 (r_asi rfl) ?_
  refine wn ?_
  refine c_sreg rfl ?_
  refine s1 (r_ld rfl (mm.b 2 rfl) rfl) ?_
  refine s1 (r_sll rfl rfl (by decide) (by simp; omega)) ?_
  refine ss (o_st mm 2 rfl rfl rfl rfl rfl fun w3 mm => ?_)
  refine wn ?_
  have hd := Sl.drop H hc 1 (by simp)
  refine c_seq ?_
  refine c_sreg rfl ?_
  refine s1 (r_mvi rfl) ?_
  refine s1 (r_mvi rfl) ?_
  refine s1 (r_lt rfl rfl) ?_
  refine s1 (r_mvb rfl) ?_
  refine sF rfl rfl (fun h => r_mvi rfl) ?_
  refine sF rfl rfl (fun h => r_mvi rfl) ?_
  refine sF rfl rfl (fun h => r_gt (sel_t h :) (sel_t h :)) ?_
  refine s1 (r_or rfl rfl) ?_
  refine wn ?_
  refine c_cond rfl (fun h => ?_) (fun h => (c_skip (t_n ?_)))
  · have hq : (x.toNat : Int) < low ∨ high < (x.toNat : Int) := by simp at h; exact h
    rw [if_pos hq]
    refine c_region rfl ?_
    refine s1 (r_ld rfl (mm.b 3 rfl) rfl) ?_
    refine so (o_f11 rfl rfl (c_tk1 mm 3) ?_)
    rintro _ w4 ⟨rfl, mm⟩
    refine wn (t_n ?_)
    refine c_sreg rfl ?_
    refine s1 (r_mvi rfl) ?_
    refine s1 (r_asi rfl) ?_
    refine wn ?_
    exact c_ret (ret1 rfl rfl ⟨_, rfl, mm, hd⟩)
  have hq : ¬ ((x.toNat : Int) < low ∨ high < (x.toNat : Int)) := by simp at h; omega
  rw [if_neg hq]
  refine c_sreg rfl ?_
  refine s1 (r_mvi rfl) ?_
  refine s1 (r_asi rfl) ?_
  refine wn ?_
  exact c_ret (ret1 rfl rfl ⟨_, rfl, mm, hd⟩)

theorem Sl.at {L : List It} (mm : Mem w0 No w L) (h : Sl w0 v s) : Sl w v s := by
  obtain ⟨a, c, rfl, hc, H⟩ := h
  exact ⟨a, c, rfl, hc, mm.ro H⟩
theorem c_tk3 (mm : Mem w0 No w (tkL bR bE bL bF bO cs er v)) (hs : Sl w0 v s) (hl : s.length ≤ 4611686018427387904) (low high : Int) (h0 : 0 ≤ low) (h1 : low ≤ 4611686018427387904) (h2 : 0 ≤ high) (h3 : high ≤ 4611686018427387904) : Cl Try.prog 52 #[.int .i64 low, .int .i64 high, .pointer (some ⟨bL, 0, none⟩), .pointer (some ⟨bE, 0, none⟩), .pointer (some ⟨bF, 0, none⟩)] w
    (fun r w' => ∃ v', r = .int .i64 (tNum low high s er).1 ∧ Mem w0 No w' (tkL bR bE bL bF bO cs (tNum low high s er).2.2 v') ∧ Sl w0 v' (tNum low high s er).2.1) := by
  have hs1 := hs
  obtain ⟨a, c, rfl, hac, H⟩ := hs
  have hve := vtake_err (b := s)
  refine f_enter (args := [_, _, _, _, _]) Try.func52 rfl rfl ?_
  refine c_sreg rfl ?_
  refine s1 (r_asi rfl) ?_
  refine wn ?_
  refine c_sreg rfl ?_
  refine s1 (r_ld rfl (mm.b 2 rfl) rfl) ?_
  refine so (o_c1 rfl (c_vtake s hl _ _ (Sl.at mm hs1)) ?_)
  rintro _ w2 ⟨rfl, hc⟩
  have mm := mm.frame hc
  refine s1 (r_mvu rfl) ?_
  refine s1 (r_exti rfl rfl) ?_
  refine s1 (r_exti rfl rfl) ?_
  refine s1 (r_exti rfl rfl) ?_
  refine s1 (r_asi rfl) ?_
  refine s1 (r_asi rfl) ?_
  refine s1 (r_asi rfl) ?_
  refine wn ?_
  generalize htk : vtake s = t at *
  obtain ⟨n, k, x⟩ := t
  dsimp only at *
  refine c_seq ?_
  refine c_sreg rfl ?_
  refine s1 (r_ld rfl (mm.b 1 rfl) rfl) ?_
  refine s1 (r_ne rfl rfl) ?_
  refine s1 (r_mvb rfl) ?_
  refine sF rfl rfl (fun h => r_mvi rfl) ?_
  refine sF rfl rfl (fun h => r_ne (sel_t h :) rfl) ?_
  refine s1 (r_or rfl rfl) ?_
  refine wn ?_
  refine c_cond rfl (fun h => ?_) (fun h => (c_skip (t_n ?_)))
  · have hq : er ≠ 0 ∨ x ≠ 0 := by simpa using h
    have ht : tNum low high s er = (low, s, if er = 0 then x else er) := by
      unfold tNum
      rw [htk, if_pos hq]
    rw [ht]
    refine c_sreg rfl ?_
    refine s1 (r_ld rfl (mm.b 3 rfl) rfl) ?_
    refine s1 (r_mvi rfl) ?_
    refine so (o_f11 rfl rfl (c_tk1 mm x) ?_)
    rintro _ w3 ⟨rfl, mm⟩
    refine wn ?_
    refine c_sreg rfl ?_
    refine s1 (r_mvi rfl) ?_
    refine s1 (r_asi rfl) ?_
    refine wn ?_
    exact c_ret (ret1 rfl rfl ⟨_, rfl, mm, a, c, rfl, hac, H⟩)
  have hq : er = 0 ∧ x = 0 := by simpa using h
  obtain ⟨rfl, rfl⟩ := hq
  have hk : 1 ≤ k ∧ k ≤ s.length := by
    rcases hve with hve | hve | hve
    · exact hve.2
    · cases hve
    · cases hve
  have ht : tNum low high s 0 = (IntKind.i64.wrap n, s.drop k, if (n : Int) < low ∨ high < (n : Int) then 3 else 0) := by
    unfold tNum
    rw [htk]
    exact if_neg (by simp)
  rw [ht]
  clear h
  have hd := Sl.drop H hac k hk.2
  refine c_sreg rfl ?_
  refine s1 (r_ld rfl (mm.b 2 rfl) rfl) ?_
  refine s1 (r_mvi rfl) ?_
  refine s1 (r_sll rfl rfl (by omega) (by omega)) ?_
  refine ss (o_st mm 2 rfl rfl rfl rfl rfl fun w4 mm => ?_)
  refine wn ?_
  refine c_seq ?_
  refine c_sreg rfl ?_
  refine s1 (r_mvi rfl) ?_
  refine s1 (r_mvi rfl) ?_
  refine s1 (r_cv rfl (wu64 (by omega) (by omega))) ?_
  refine s1 (r_lt rfl rfl) ?_
  refine s1 (r_mvb rfl) ?_
  refine sF rfl rfl (fun h => r_mvi rfl) ?_
  refine sF rfl rfl (fun h => r_mvi rfl) ?_
  refine sF rfl rfl (fun h => r_cv (sel_t h :) (wu64 (by omega) (by omega))) ?_
  refine sF rfl rfl (fun h => r_gt (sel_t h :) (sel_t h :)) ?_
  refine s1 (r_or rfl rfl) ?_
  refine wn ?_
  refine c_cond rfl (fun h => ?_) (fun h => (c_skip (t_n ?_)))
  · have hq : (n : Int) < low ∨ high < (n : Int) := by simpa using h
    rw [if_pos hq]
    refine c_region rfl ?_
    refine s1 (r_ld rfl (mm.b 3 rfl) rfl) ?_
    refine so (o_f11 rfl rfl (c_tk1 mm 3) ?_)
    rintro _ w5 ⟨rfl, mm⟩
    refine wn (t_n ?_)
    refine c_sreg rfl ?_
    refine s1 (r_mvi rfl) ?_
    refine s1 (r_cv rfl rfl) ?_
    refine s1 (r_asi rfl) ?_
    refine wn ?_
    exact c_ret (ret1 rfl rfl ⟨_, rfl, mm, hd⟩)
  have hq : ¬ ((n : Int) < low ∨ high < (n : Int)) := by simpa using h
  rw [if_neg hq]
  refine c_sreg rfl ?_
  refine s1 (r_mvi rfl) ?_
  refine s1 (r_cv rfl rfl) ?_
  refine s1 (r_asi rfl) ?_
  refine wn ?_
  exact c_ret (ret1 rfl rfl ⟨_, rfl, mm, hd⟩)

theorem K.Cells.takeb {a : Option Addr} {s : List UInt8} (h : Cells w a (u8s s)) (n : Nat) : Cells w a (u8s (s.take n)) := by
  have := h.take n
  unfold u8s at this ⊢
  rw [List.map_take]
  exact this
theorem c_tk4 (mm : Mem w0 No w (tkL bR bE bL bF bO cs er v)) (hs : Sl w0 v s) (hl : s.length ≤ 4611686018427387904) (most : Int) : Cl Try.prog 53 #[.int .i64 most, .pointer (some ⟨bO, 0, none⟩), .pointer (some ⟨bE, 0, none⟩), .pointer (some ⟨bL, 0, none⟩), .pointer (some ⟨bF, 0, none⟩)] w
    (fun r w' => ∃ v', r = str (tWords most s er).1 ∧ Mem w0 No w' (tkL bR bE bL bF bO cs (tWords most s er).2.2 v') ∧ Sl w0 v' (tWords most s er).2.1) := by
  refine f_enter (args := [_, _, _, _, _]) Try.func53 rfl rfl ?_
  have hok := @tOne_ok 1 most s er
  have hle := @tOne_le 1 most s er
  refine c_sreg rfl ?_
  refine s1 (r_ast rfl) ?_
  refine wn ?_
  refine c_sreg rfl ?_
  refine s1 (r_ld rfl (mm.b 4 rfl) rfl) ?_
  refine s1 (r_mvi rfl) ?_
  refine so (o_f23 rfl rfl rfl (c_tk2 mm hs hl 1 most) ?_)
  rintro _ w2 ⟨v2, rfl, mm, hs2⟩
  refine s1 (r_asi rfl) ?_
  refine wn ?_
  generalize htk : tOne 1 most s er = t at *
  obtain ⟨n, s', e'⟩ := t
  dsimp only at *
  obtain ⟨a, c, rfl, hac, H⟩ := hs2
  refine c_seq ?_
  refine c_sreg rfl ?_
  refine s1 (r_ld rfl (mm.b 1 rfl) rfl) ?_
  refine s1 (r_ne rfl rfl) ?_
  refine s1 (r_mvb rfl) ?_
  refine sF rfl rfl (fun h => r_ld rfl (mm.b 2 rfl) rfl) ?_
  refine sF rfl rfl (fun h => r_len (sel_t h :)) ?_
  refine sF rfl rfl (fun h => r_mvi rfl) ?_
  refine sF rfl rfl (fun h => r_lt (sel_t h :) (sel_t h :)) ?_
  refine s1 (r_or rfl rfl) ?_
  refine wn ?_
  refine c_cond rfl (fun h => ?_) (fun h => (c_skip (t_n ?_)))
  · have hq : e' ≠ 0 ∨ (s'.length : Int) < n := by simpa using h
    have ht : tWords most s er = ([], s', if e' = 0 then 2 else e') := by
      unfold tWords
      rw [htk, if_pos hq]
    rw [ht]
    refine c_sreg rfl ?_
    refine s1 (r_ld rfl (mm.b 3 rfl) rfl) ?_
    refine so (o_f11 rfl rfl (c_tk1 mm 2) ?_)
    rintro _ w3 ⟨rfl, mm⟩
    refine wn ?_
    refine c_sreg rfl ?_
    refine s1 (r_ast rfl) ?_
    refine wn ?_
    exact c_ret (ret1 rfl rfl ⟨_, rfl, mm, a, c, rfl, hac, H⟩)
  have hq : e' = 0 ∧ ¬ (s'.length : Int) < n := by simpa using h
  obtain ⟨rfl, hq⟩ := hq
  have hn := hok rfl
  have ht : tWords most s er = (s'.take n.toNat, s'.drop n.toNat, 0) := by
    unfold tWords
    rw [htk]
    exact if_neg (by simp; omega)
  rw [ht]
  clear h
  have hd := Sl.drop H hac n.toNat (by omega)
  refine c_sreg rfl ?_
  refine s1 (r_ld rfl (mm.b 2 rfl) rfl) ?_
  refine s1 (r_mvi rfl) ?_
  refine s1 (r_slh rfl rfl (by omega) (by omega)) ?_
  refine s1 (r_b2s rfl (mm.ro (H.takeb n.toNat)) (by rw [List.length_take]; omega)) ?_
  refine s1 (r_ast rfl) ?_
  refine wn ?_
  refine c_sreg rfl ?_
  refine s1 (r_ld rfl (mm.b 2 rfl) rfl) ?_
  refine s1 (r_mvi rfl) ?_
  refine s1 (r_sll rfl rfl (by omega) (by omega)) ?_
  refine ss (o_st mm 2 rfl rfl rfl rfl rfl fun w4 mm => ?_)
  refine wn ?_
  refine c_sreg rfl ?_
  refine s1 (r_mvt rfl) ?_
  refine s1 (r_ast rfl) ?_
  refine wn ?_
  exact c_ret (ret1 rfl rfl ⟨_, rfl, mm, hd⟩)
end
end Go.Proofs.Ytgdbbaggkoillaa

