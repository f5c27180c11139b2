/- kithlaw06.few, EventBack, EventCuts: walks. -/
import Derived.Test.YtgdbbaggkoillaaTc
import Derived.Test.YtgdbbaggkoillaaTr
import Derived.Test.YtgdbbaggkoillaaTs
namespace Go.Proofs.Ytgdbbaggkoillaa
open K
set_option maxRecDepth 100000
set_option maxHeartbeats 4000000

theorem c_few (w0 : World) (b : List UInt8) (v : Value) (w : World) (hs : Sl w0 v b) : Cl Try.prog 25 #[v] w (fun r w' => Sl w0 r (b.take 80) ∧ Chg No w w') := by
  obtain ⟨a, c, rfl, hac, H⟩ := hs
  have hmin : (min (b.length : Int) 80) = ((min b.length 80 : Nat) : Int) := by omega
  refine f_enter (args := [_]) Try.func25 rfl rfl ?_
  have mm := Mem.nil No w
  refine c_sreg rfl ?_
  refine s1 (r_ass rfl) ?_
  refine wn ?_
  refine c_sreg rfl ?_
  refine s1 (r_mvs rfl) ?_
  refine s1 (r_mvs rfl) ?_
  refine s1 (r_len rfl) ?_
  refine s1 (r_min2 rfl rfl) ?_
  refine s1 (r_slh rfl rfl (by omega) (by omega)) ?_
  refine s1 (r_ass rfl) ?_
  refine wn ?_
  refine c_ret (ret1 rfl rfl ⟨⟨a, c, ?_, ?_, H.takeb 80⟩, mm.chg⟩)
  · show Value.slice a (min (b.length : Int) 80).toNat c = _
    rw [hmin, List.length_take, Nat.min_comm]; rfl
  · rw [List.length_take]; omega

theorem Sl.own {w0 w : World} {F0 : Nat → Prop} {L : List It} (mm : Mem w0 F0 w L) (k : Nat) {a : Option Addr} {c : Nat} {b : List UInt8} (hk : nth L k = some (own 5 1 a b.length c (u8s b))) : Sl w (.slice a b.length c) b :=
  ⟨a, c, rfl, own_le (mm.o k hk), mm.c k hk⟩
def E23 (e : Int) : Prop := e = 0 ∨ e = 2 ∨ e = 3
theorem tOne_23 {l h : Int} {s : List UInt8} {e : Int} (he : E23 e) : E23 (tOne l h s e).2.2 := by
  unfold tOne
  split
  · exact he
  · split
    · exact .inr (.inl rfl)
    · show E23 (if _ then _ else _)
      split
      · exact .inr (.inr rfl)
      · exact .inl rfl
theorem tNum_23 {l h : Int} {s : List UInt8} {e : Int} (he : E23 e) : E23 (tNum l h s e).2.2 := by
  have hv := vtake_err (b := s)
  unfold tNum
  split
  · show E23 (if _ then _ else _)
    split
    · rcases hv with hv | hv | hv
      · exact .inl hv.1
      · exact .inr (.inl hv)
      · exact .inr (.inr hv)
    · exact he
  · show E23 (if _ then _ else _)
    split
    · exact .inr (.inr rfl)
    · exact .inl rfl
theorem tWords_23 {m : Int} {s : List UInt8} {e : Int} (he : E23 e) : E23 (tWords m s e).2.2 := by
  have h1 := tOne_23 (l := 1) (h := m) (s := s) he
  unfold tWords
  split
  · show E23 (if _ then _ else _)
    split
    · exact .inr (.inl rfl)
    · exact h1
  · exact h1
theorem tCtx_23 {r : Int} {s : List UInt8} {e : Int} (he : E23 e) : ∀ i, E23 (tCtx r s e i).2.2
  | 0 => he
  | i + 1 => by
    have ih := tCtx_23 (r := r) (s := s) he i
    show E23 (tStep r i (tCtx r s e i)).2.2
    unfold tStep
    split
    · exact tNum_23 ih
    · exact ih
theorem tKeyE_23 {k : List UInt8} {e : Int} (he : E23 e) : E23 (tKeyE k e) := by
  unfold tKeyE
  split
  · exact he
  · split
    · exact .inr (.inr rfl)
    · exact he
theorem f6_23 {k r n : Int} {c : Clk} {h : Int} {y : List UInt8 × List UInt8 × Int} (he : E23 y.2.2) : E23 (f6 k r n c h y).2.2 := by
  have h6 := tKeyE_23 (k := y.1) he
  unfold f6
  split
  · exact tWords_23 (tOne_23 h6)
  · exact h6
theorem takeE_23 (b : List UInt8) : E23 (takeE b).2.2 := by
  have h : E23 (takeS b).2.2 := by
    rw [takeS_f]
    unfold f1 f2 f3 f4 f5
    refine f6_23 ?_
    refine tWords_23 ?_
    refine tNum_23 ?_
    refine tCtx_23 ?_ 5
    refine tNum_23 ?_
    refine tOne_23 ?_
    exact tOne_23 (.inl rfl)
  unfold takeE takeFin
  split
  · exact h
  · exact .inl rfl
end Go.Proofs.Ytgdbbaggkoillaa

