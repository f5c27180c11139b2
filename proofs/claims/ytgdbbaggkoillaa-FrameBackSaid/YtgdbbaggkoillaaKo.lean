/- The walk's own small logic, tenth part: jumps back; results in memory; items joined. -/
import Derived.Test.YtgdbbaggkoillaaKn
namespace Go.Proofs.Ytgdbbaggkoillaa
namespace K

/-- As Q; by a jump to l: J. -/
def jmp (l : Nat) (J : Env → World → Prop) (Q : Post) : Post
  | .goto l', e, w => l' = l ∧ J e w
  | x, e, w => Q x e w
section
variable {P : Program} {N : Nat} {Rt : Env → World → Prop} {Q : Post} {e : Env} {w : World}
theorem j_g {l : Nat} {J : Env → World → Prop} (h : J e w) : jmp l J Q (.goto l) e w := ⟨rfl, h⟩
theorem j_n {l : Nat} {J : Env → World → Prop} (h : Q .normal e w) : jmp l J Q .normal e w := h
theorem j_x {l id : Nat} {J : Env → World → Prop} (h : Q (.exit id) e w) : jmp l J Q (.exit id) e w := h
theorem c_scope {c X : Code} {l : Nat} (hf : findLabel c l = some (.seq .skip X)) (I : Nat → Env → World → Prop)
    (pass : ∀ k e w, I k e w → wpE P N Rt X (jmp l (fun e' w' => ∃ k', k' < k ∧ I k' e' w') Q) e w)
    (first : (∀ k e w, I k e w → wpE P N Rt X (jmp l (fun e' w' => ∃ k', I k' e' w') Q) e w) → wpE P N Rt c (jmp l (fun e' w' => ∃ k', I k' e' w') Q) e w) : wpE P N Rt (.scope c) Q e w := by
  have first := first (fun k e w hI => c_mono (pass k e w hI) fun x e w hx => by
    cases x with
    | goto l' => exact ⟨hx.1, hx.2.elim fun k' h => ⟨k', h.2⟩⟩
    | _ => exact hx)
  intro a ha b k cs
  have hg : gotoIn l (.inScope c :: k) = some (.code (.seq .skip X) :: .inScope c :: k) := by simp [gotoIn, hf]
  have key : ∀ n a e w, Agr N a e → I n e w → ∃ x a' w', (∃ e', Agr N a' e' ∧ endE Rt Q x e' w') ∧ Arrives P (lone (b.at a (.code (.seq .skip X) :: .inScope c :: k)) cs w) b k cs x a' w' := by
    intro n
    induction n using Nat.strongRecOn with
    | _ n ih =>
      intro a e w ha hI
      have hp : wpE P N Rt (.seq .skip X) (jmp l (fun e' w' => ∃ k', k' < n ∧ I k' e' w') Q) e w := c_seq (c_skip (t_n (pass n e w hI)))
      obtain ⟨x, a₁, w₁, ⟨e₁, ha₁, hq⟩, harr⟩ := hp a ha b (.inScope c :: k) cs
      cases x with
      | normal => exact ⟨.normal, a₁, w₁, ⟨e₁, ha₁, hq⟩, Steps.trans harr (.one step_inScope)⟩
      | exit id => exact ⟨.exit id, a₁, w₁, ⟨e₁, ha₁, hq⟩, fun k' hk => harr k' (by simp [exitTo, hk])⟩
      | goto l' =>
        obtain ⟨rfl, k', hlt, hI'⟩ := hq
        obtain ⟨x₂, a₂, w₂, hq₂, harr₂⟩ := ih _ hlt a₁ e₁ w₁ ha₁ hI'
        exact ⟨x₂, a₂, w₂, hq₂, .of_steps (harr _ hg) harr₂⟩
      | ret => exact ⟨.ret, a₁, w₁, ⟨e₁, ha₁, hq⟩, harr⟩
      | panic ch => exact ⟨.panic ch, a₁, w₁, ⟨e₁, ha₁, hq⟩, harr⟩
      | outgrown => exact ⟨.outgrown, a₁, w₁, ⟨e₁, ha₁, hq⟩, harr⟩
  obtain ⟨x, a₁, w₁, ⟨e₁, ha₁, hq⟩, harr⟩ := first a ha b (.inScope c :: k) cs
  cases x with
  | normal => exact ⟨.normal, a₁, w₁, ⟨e₁, ha₁, hq⟩, .head step_scope (Steps.trans harr (.one step_inScope))⟩
  | exit id => exact ⟨.exit id, a₁, w₁, ⟨e₁, ha₁, hq⟩, fun k' hk => .head step_scope (harr k' (by simp [exitTo, hk]))⟩
  | goto l' =>
    obtain ⟨rfl, n, hI'⟩ := hq
    obtain ⟨x₂, a₂, w₂, hq₂, harr₂⟩ := key n a₁ e₁ w₁ ha₁ hI'
    exact ⟨x₂, a₂, w₂, hq₂, .of_steps (.head step_scope (harr _ hg)) harr₂⟩
  | ret => exact ⟨.ret, a₁, w₁, ⟨e₁, ha₁, hq⟩, .of_steps (.one step_scope) harr⟩
  | panic ch => exact ⟨.panic ch, a₁, w₁, ⟨e₁, ha₁, hq⟩, .of_steps (.one step_scope) harr⟩
  | outgrown => exact ⟨.outgrown, a₁, w₁, ⟨e₁, ha₁, hq⟩, .of_steps (.one step_scope) harr⟩
end
section
variable {P : Program} {fn : Func} {R : Value → World → Prop} {e : Env} {w : World}
/-- Two results in memory: a struct, a value of one cell. -/
theorem retcs {t t' T T' S S' b b' n : Nat} {cs : List Value} {v : Value} [h' : Ag P T n] [h'' : Sc P S] (h : fn.results.toList = [.cell t T, .cell t' S]) (hv : e t = .pointer (some ⟨b, 0, none⟩)) (hb : w.heap[b]? = some (.cells cs.toArray T' (0, 0))) (hn : cs.length = n)
    (hv' : e t' = .pointer (some ⟨b', 0, none⟩)) (hb' : w.heap[b']? = some (.cells [v].toArray S' (0, 0))) (hR : R (.tuple #[.agg cs.toArray, v]) w) : retE P fn R e w :=
  ⟨[.agg cs.toArray, v], by rw [h]; exact ⟨_, _, [v], hv, lv_row hb hn, rfl, _, _, [], hv', lv_one hb', rfl, rfl⟩, hR⟩
end

/-! items joined -/
def triv : It where
  foot := fun _ => False
  holds := fun _ => True
  keep := fun _ _ _ _ => trivial
  live := fun _ _ _ h => h.elim
section
variable {w0 w w' : World} {F0 : Nat → Prop} {L L' : List It}
/-- Two items become one; the other's place is left empty. -/
theorem Mem.fuse (m : Mem w0 F0 w L) {I I' J : It} (k k' : Nat) (hk : nth L k = some I) (hk' : nth L k' = some I') (hkk : k ≠ k') (hJ : J.holds w) (hf : ∀ b, J.foot b → I.foot b ∨ I'.foot b) : Mem w0 F0 w (setN (setN L k J) k' triv) :=
  m.turn2 k k' hk hk' hkk (Chg.refl _ w) hJ trivial (fun b hb => .inl (hf b hb)) (fun _ h => h.elim) (fun _ _ h => h)
theorem nth_app {α : Type} (l m : List α) (x : α) (i : Nat) (h : nth (l ++ m) i = some x) : (i < l.length ∧ nth l i = some x) ∨ (l.length ≤ i ∧ nth m (i - l.length) = some x) := by
  rw [nth_eq] at h
  by_cases hk : i < l.length
  · rw [List.getElem?_append_left hk] at h
    exact .inl ⟨hk, by rw [nth_eq]; exact h⟩
  · rw [List.getElem?_append_right (by omega)] at h
    exact .inr ⟨by omega, by rw [nth_eq]; exact h⟩
/-- What a call that turned nothing old has left. -/
theorem Mem.join (m : Mem w0 F0 w L) (n : Mem w No w' L') : Mem w0 F0 w' (L ++ L') := by
  have m' := m.frame n.chg
  have hnew : ∀ i x, nth L' i = some x → ∀ b, x.foot b → w.heap.size ≤ b := fun i x hx b hb => (n.mine i x hx b hb).resolve_left (fun h => h)
  refine ⟨m'.chg, fun i x hx => ?_, fun i x hx => ?_, fun i j x y hx hy hne b hb hb' => ?_⟩
  · rcases nth_app L L' x i hx with ⟨_, hx⟩ | ⟨_, hx⟩
    · exact m'.ok i x hx
    · exact n.ok _ x hx
  · rcases nth_app L L' x i hx with ⟨_, hx⟩ | ⟨_, hx⟩
    · exact m'.mine i x hx
    · exact fun b hb => .inr (Nat.le_trans m.chg.size (hnew _ x hx b hb))
  · rcases nth_app L L' x i hx with ⟨hi, hx⟩ | ⟨hi, hx⟩ <;> rcases nth_app L L' y j hy with ⟨hj, hy⟩ | ⟨hj, hy⟩
    · exact m.dis i j x y hx hy hne b hb hb'
    · have := x.live w b (m.ok i x hx) hb
      have := hnew _ y hy b hb'
      omega
    · have := y.live w b (m.ok j y hy) hb'
      have := hnew _ x hx b hb
      omega
    · exact n.dis _ _ x y hx hy (by omega) b hb hb'
/-- What is new since w, of a Mem that began at w. -/
theorem Mem.rest (m : Mem w0 No w L) : Mem w0 No w L := m
end
end K
end Go.Proofs.Ytgdbbaggkoillaa
