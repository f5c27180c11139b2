/- The walk's own small logic: a slice made of zero values. -/
import Derived.Test.YtgdbbaggkoillaaKn
import Derived.Laws.MakeOwn
namespace Go.Proofs.Ytgdbbaggkoillaa
namespace K
section
variable {P : Program} {e : Env} {w : World} {d : Option Nat} {ty : Nat} {pos : String} {af : Array Edge} {g : Option (Nat × Bool)} {K : Value → World → Prop}
variable {w0 : World} {F0 : Nat → Prop} {L : List It}
theorem o_mk {t el sz by_ n : Nat} {k k' : IntKind} {l c : Operand} {z : List Value} [ht : TSl P t el] [he : El P el sz by_ z] (m : Mem w0 F0 w L) (hl : ev e l = .int k ((n : Nat) : Int)) (hc : ev e c = .int k' ((n : Nat) : Int)) (hb : by_ * n ≤ 281474976710656) (hm : n ≤ maxLen)
    (hK : ∀ a w', Mem w0 F0 w' (L ++ [own el sz a n n (zrep z n)]) → K (.slice a n n) w') : OwpE P ⟨d, .makeSlice t l c, ty, pos, af, g⟩ e w K := by
  obtain ⟨i, zv, hi, hsz, hby, hz, hzc, hzl, h0⟩ := he.h
  have hb' : (i.bytes : Int) * ((n : Nat) : Int) ≤ 281474976710656 := by
    have h : ((i.bytes * n : Nat) : Int) ≤ 281474976710656 := by rw [hby]; omega
    rwa [Int.natCast_mul] at h
  have hr := run_make (P := P) w t el i zv ht.h hi hz k k' n n (by omega) (by omega) hb' (by unfold maxLen at hm; omega)
  have h3 : madeCells zv.cells (n * i.size) = (zrep z n).toArray := by
    unfold madeCells
    rw [hsz, hzc, ← hzl]; exact zrep_eq z n
  simp only [Int.toNat_natCast, h3] at hr
  unfold OwpE
  simp only [execOp, hl, hc, Sem.run_bind, hr, Result.andThen_ok]
  exact hK _ _ (own_made (n := n) (cs := zrep z n) m (by rw [zrep_length, hzl]) hm)
end
theorem zrep_u8 : ∀ n, zrep [.int .u8 0] n = u8s (List.replicate n 0)
  | 0 => rfl
  | n + 1 => by rw [zrep, zrep_u8 n, List.replicate_succ]; rfl
end K
end Go.Proofs.Ytgdbbaggkoillaa
