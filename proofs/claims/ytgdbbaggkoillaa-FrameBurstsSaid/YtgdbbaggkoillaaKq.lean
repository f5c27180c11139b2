/- The walk's own small logic, twelfth part: a cell of one's own row, stored. -/
import Derived.Test.YtgdbbaggkoillaaKo
namespace Go.Proofs.Ytgdbbaggkoillaa
namespace K
section
variable {P : Program} {e : Env} {w : World} {d : Option Nat} {ty : Nat} {pos : String} {af : Array Edge} {g : Option (Nat × Bool)} {K : Value → World → Prop}
variable {w0 : World} {F0 : Nat → Prop} {L : List It}
theorem splice_take (cs : List Value) (j m : Nat) (v : Value) (hj : j < m) (hm : m ≤ cs.length) : (splice cs j [v]).take m = setN (cs.take m) j v := by
  rw [setN_eq, ← setN_splice cs j v (by omega), setN_eq, List.take_set]
theorem o_stc {t j T sz n c : Nat} {x y : Operand} {a : Option Addr} {cs : List Value} {v : Value} [h : Sc P t] (m : Mem w0 F0 w L) (k : Nat) (hk : nth L k = some (own T sz a n c cs)) (hx : ev e x = .pointer (a.map (·.add j))) (hy : ev e y = v) (h1 : v.oneCell' = true) (hl : j < n * sz)
    (hK : ∀ w', Mem w0 F0 w' (setN L k (own T sz a n c (setN cs j v))) → K undef w') : OwpE P ⟨d, .store t x y, ty, pos, af, g⟩ e w K := by
  have ho := m.o k hk
  rcases ho.2 with ⟨hv, hn⟩ | ⟨gb, cap, cur, hv, hbg, hg, hnc, hcm, hcs, htake⟩
  · subst hn; simp at hl
  · injection hv with e1 e2 e3
    subst e1; subst e3
    have hsz : n * sz ≤ cur.size := by rw [hcs]; exact Nat.mul_le_mul_right _ hnc
    have hxx : ev e x = .pointer (some ⟨gb, j, none⟩) := by
      rw [hx]
      have : (⟨gb, 0, none⟩ : Addr).add j = ⟨gb, j, none⟩ := by unfold Addr.add; split <;> simp_all
      rw [Option.map_some, this]
    have hg' : w.heap[gb]? = some (.cells cur.toList.toArray T (0, 0)) := by rw [Array.toArray_toList]; exact hg
    have hr := run_store_splice (P := P) (w := w) (vs := [v]) h.s hg' (cells_one h1) rfl (by intro u hu; simp at hu; subst hu; exact h1) (show j + 1 ≤ cur.toList.length by rw [Array.length_toList]; omega)
    unfold OwpE
    simp only [execOp, hxx, hy, Sem.run_bind, hr, Result.andThen_ok, Sem.run_pure]
    refine hK _ (m.turn k hk (Chg.mono chg_setRow (fun b hb => by subst hb; rfl)) ⟨?_, .inr ⟨gb, c, _, rfl, Nat.zero_le _, setRow_heap w gb cur _ T _ hg, hnc, hcm, ?_, ?_⟩⟩ (fun b hb => .inl hb))
    · rw [setN_eq, List.length_set]; exact ho.1
    · rw [List.size_toArray, splice_length _ _ _ (show j + 1 ≤ cur.toList.length by rw [Array.length_toList]; omega), Array.length_toList]; exact hcs
    · rw [← htake]
      exact splice_take _ _ _ _ hl (by simpa using hsz)
end
end K
end Go.Proofs.Ytgdbbaggkoillaa
