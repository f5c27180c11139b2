/- kithlaw07.FrameCuts: the walk. -/
import Derived.Test.YtgdbbaggkoillaaHa
import Derived.Test.YtgdbbaggkoillaaHb
namespace Go.Proofs.Ytgdbbaggkoillaa
open K
set_option maxRecDepth 100000
set_option maxHeartbeats 4000000

theorem tmodN2 (a b : Nat) : ((a : Nat) : Int).tmod ((b : Nat) : Int) = ((a % b : Nat) : Int) := Int.ofNat_tmod a b
theorem Sl.cutF {w : World} {a : Option Addr} {c : Nat} {s : List UInt8} (h : Cells w a (u8s s)) (hc : s.length ≤ c) (i : Nat) (hi : i ≤ s.length) : Sl w (.slice a (((i : Nat) : Int)).toNat c) (s.take i) :=
  ⟨a, c, by rw [List.length_take, Nat.min_eq_left hi]; rfl, by rw [List.length_take]; omega, h.takeb i⟩
theorem takeF_short {b : List UInt8} (h : b.length < 4) : takeF b = (rec0, 4) := by
  have ho : openL b = none := by unfold openL; rw [if_pos h]
  unfold takeF
  rw [if_neg (by omega), ho]
theorem frPut_take {b : List UInt8} (h : (takeF b).2 = 0) : frPut (takeF b).1 = b := by
  obtain ⟨_, h2, h3⟩ := takeF_ok h
  unfold frPut
  rw [h2]
  exact h3
/-- A frame that is taken from bytes that are short enough gives the same bytes; else it is refused. -/
theorem takeF_3 {b : List UInt8} (hl : b.length ≤ 2048) : (takeF b).2 = 0 ∨ (takeF b).2 = 4 ∨ (takeF b).2 = 3 := by
  unfold takeF
  rw [if_neg (by omega)]
  split
  · exact .inr (.inl rfl)
  · split
    · exact .inr (.inr rfl)
    · split
      · exact .inr (.inr rfl)
      · exact .inl rfl
theorem c_FrameCuts (x0 : Rec) (a : Option Addr) (cap : Nat) (hin : RecIn x0) (m : Nat) (hm : m ≤ 65535) (w : World) (H : Cells w a (evsC x0.es)) : Cl Try.prog 14 #[.agg (recV x0 a cap).toArray, .int .u16 (m : Nat)] w (fun v w' => v = .bool true ∧ Chg No w w') := by
  refine f_enter (args := [_, _]) Try.func14 rfl rfl ?_
  have mm := Mem.nil No w
  have ok := frFit_ok x0
  have hmf := frMay_of ok
  have hpe : frPut (frFit x0) = putF (frFit x0) := by unfold frPut; rw [hmf]; rfl
  refine c_sreg rfl ?_
  refine so (o_bxa mm rfl fun b2 w2 mm => ?_)
  refine s1 (r_asb rfl) ?_
  refine wn ?_
  refine c_sreg rfl ?_
  refine so (o_c0 (c_shown07 _) ?_)
  rintro _ w3 ⟨rfl, hc⟩
  have mm := mm.frame hc
  refine s1 (r_asb rfl) ?_
  refine wn ?_
  refine c_sreg rfl ?_
  refine s1 (r_lda rfl (mm.b 0 rfl) rfl) ?_
  refine so (o_c1 rfl (c_fit07 x0 _ (mm.ro H) hin) ?_)
  rintro _ w4 ⟨a4, c4, rfl, hc, hn⟩
  have mm := mm.new hc hn
  refine so (o_c1 rfl (c_fPut (frFit x0) _ (mm.c 1 rfl) (clk_okF ok.c)) ?_)
  rintro _ w5 ⟨a5, c5, rfl, hc, hn⟩
  have mm := mm.new hc hn
  refine s1 (r_mvu rfl) ?_
  refine s1 (r_exts rfl rfl) ?_
  refine s1 (r_exti rfl rfl) ?_
  refine s1 (r_ass rfl) ?_
  refine s1 (r_asi rfl) ?_
  refine wn ?_
  rw [hpe, hmf] at *
  have hpp := putF_pos (frFit x0)
  have hlen := putF_len ok
  generalize frFit x0 = x at *
  generalize hS : putF x = S at *
  have mm : Mem w No _ [bk b2 (recV x0 a cap) 47, own 25 12 a4 x.es.length c4 (evsC x.es), own 5 1 a5 S.length c5 (u8s S)] := mm
  refine c_seq ?_
  refine c_sreg rfl ?_
  refine s1 (r_mvb rfl) ?_
  refine s1 (r_not rfl) ?_
  refine s1 (r_mvb rfl) ?_
  refine sF rfl rfl (fun h => r_mvi rfl) ?_
  refine sF rfl rfl (fun h => r_ne (sel_t h :) rfl) ?_
  refine s1 (r_or rfl rfl) ?_
  refine s1 (r_mvb rfl) ?_
  refine sF rfl rfl (fun h => r_mvs rfl) ?_
  refine sF rfl rfl (fun h => r_len (sel_t h :)) ?_
  refine sF rfl rfl (fun h => r_lt (sel_t h :) rfl) ?_
  refine s1 (r_or rfl rfl) ?_
  refine wn ?_
  refine c_cond rfl (fun h => ?_) (fun h => (c_skip (t_n ?_)))
  · exfalso
    simp at h
    omega
  clear h
  obtain ⟨j, hj⟩ : ∃ z, z = m % 4 := ⟨_, rfl⟩
  have hj4 : j < 4 := by omega
  have e35 : IntKind.i64.wrap ((m : Nat) : Int) = ((m : Nat) : Int) := wi (by omega) (by omega)
  have e36 : ((m : Nat) : Int).tmod 4 = ((j : Nat) : Int) := by rw [hj]; exact tmodN2 m 4
  have hcr := own_le (mm.o 2 rfl)
  have s1' : ∀ w', Cells w' a5 (u8s S) → Sl w' (.slice a5 (((j : Nat) : Int)).toNat c5) (S.take j) := fun w' Hw => Sl.cutF Hw hcr j (by omega)
  have hT1 : takeF (S.take j) = (rec0, 4) := takeF_short (by rw [List.length_take]; omega)
  have c1 := c_fTake (S.take j) (by rw [List.length_take]; omega) _ _ (s1' _ (mm.c 2 rfl))
  rw [hT1] at c1
  refine c_sreg rfl ?_
  refine s1 (r_mvs rfl) ?_
  refine s1 (r_mvi rfl) ?_
  refine s1 (r_cv rfl e35) ?_
  refine s1 (r_rem rfl rfl (by decide) e36) ?_
  refine s1 (r_slh rfl rfl (by omega) (by omega)) ?_
  refine so (o_c1 rfl c1 ?_)
  rintro _ w6 ⟨a6, c6, rfl, hc, hn⟩
  have mm := mm.new hc hn
  refine s1 (r_mvu rfl) ?_
  refine s1 (r_extg rfl rfl) ?_
  refine s1 (r_exti rfl rfl) ?_
  refine so (o_al mm fun b7 w7 mm => ?_)
  refine ss (o_sta mm 4 rfl rfl rfl rfl rfl (Nat.le_of_ble_eq_true rfl) fun w8 mm => ?_)
  refine s1 (r_asi rfl) ?_
  refine wn ?_
  obtain ⟨i, hi⟩ : ∃ z, z = 4 + m % (S.length - 4) := ⟨_, rfl⟩
  have hmi : m % (S.length - 4) < S.length - 4 := Nat.mod_lt _ (by omega)
  have hi4 : 4 ≤ i ∧ i < S.length := by omega
  have e47 : IntKind.i64.wrap (((S.length : Nat) : Int) - 4) = ((S.length - 4 : Nat) : Int) := by rw [wi (by omega) (by omega)]; omega
  have e48 : ((m : Nat) : Int).tmod ((S.length - 4 : Nat) : Int) = ((m % (S.length - 4) : Nat) : Int) := tmodN2 _ _
  have e49 : IntKind.i64.wrap (4 + ((m % (S.length - 4) : Nat) : Int)) = ((i : Nat) : Int) := by rw [wi (by omega) (by omega)]; omega
  generalize m % (S.length - 4) = mi at *
  have s2' : ∀ w', Cells w' a5 (u8s S) → Sl w' (.slice a5 (((i : Nat) : Int)).toNat c5) (S.take i) := fun w' Hw => Sl.cutF Hw hcr i (by omega)
  have hl2 : (S.take i).length = i := by rw [List.length_take]; omega
  have c2 := c_fTake (S.take i) (by omega) _ _ (s2' _ (mm.c 2 rfl))
  have hw2 := takeF_w (S.take i)
  have hp2 := frPut_take (b := S.take i)
  have hm2 := takeF_ok (b := S.take i)
  have h3 := takeF_3 (b := S.take i) (by omega)
  obtain ⟨y, cd, hy⟩ : ∃ y cd, takeF (S.take i) = (y, cd) := ⟨_, _, rfl⟩
  rw [hy] at c2 hw2 hp2 hm2 h3
  refine c_sreg rfl ?_
  refine s1 (r_mvs rfl) ?_
  refine s1 (r_mvi rfl) ?_
  refine s1 (r_cv rfl e35) ?_
  refine s1 (r_mvs rfl) ?_
  refine s1 (r_len rfl) ?_
  refine s1 (r_sub rfl rfl e47) ?_
  refine s1 (r_rem rfl rfl (by omega) e48) ?_
  refine s1 (r_add rfl rfl e49) ?_
  refine s1 (r_slh rfl rfl (by omega) (by omega)) ?_
  refine so (o_c1 rfl c2 ?_)
  rintro _ w9 ⟨a9, c9, rfl, hc, hn⟩
  have mm := mm.new hc hn
  refine s1 (r_mvu rfl) ?_
  refine s1 (r_extg rfl rfl) ?_
  refine s1 (r_exti rfl rfl) ?_
  refine so (o_al mm fun b10 w10 mm => ?_)
  refine ss (o_sta mm 6 rfl rfl rfl rfl rfl (Nat.le_of_ble_eq_true rfl) fun w11 mm => ?_)
  refine s1 (r_asi rfl) ?_
  refine wn ?_
  have mm : Mem w No _ [bk b2 (recV x0 a cap) 47, own 25 12 a4 x.es.length c4 (evsC x.es), own 5 1 a5 S.length c5 (u8s S), own 25 12 a9 y.es.length c9 (evsC y.es), bk b10 (recV y a9 c9) 47] := mm.pk [0, 1, 2, 5, 6] (by decide)
  refine c_seq ?_
  refine c_sreg rfl ?_
  refine s1 (r_mvi rfl) ?_
  refine s1 (r_eq rfl rfl) ?_
  refine wn ?_
  refine c_cond rfl (fun h => ?_) (fun h => (c_skip (t_n ?_)))
  · have h0 : cd = 0 := by simpa using h
    have hput := hp2 h0
    have hmy : frMay y = true := (hm2 h0).2.1
    refine c_sreg rfl ?_
    refine s1 (r_lda rfl (mm.b 4 rfl) rfl) ?_
    refine so (o_c1 rfl (c_fPut y _ (mm.c 3 rfl) hw2.c) ?_)
    rintro _ w12 ⟨a12, c12, rfl, hc, hn⟩
    have mm := mm.new hc hn
    refine s1 (r_mvu rfl) ?_
    refine s1 (r_exts rfl rfl) ?_
    refine s1 (r_exti rfl rfl) ?_
    refine s1 (r_ass rfl) ?_
    refine s1 (r_asi rfl) ?_
    refine wn ?_
    rw [hput, hmy] at *
    refine c_sdraw2 mixed [(0, some 0), (1, some 0), (2, some 0), (3, some 0), (5, some 0), (6, some 0), (7, some 0), (8, some 0), (9, some 0), (10, some 0), (11, some 0), (12, some 0), (13, some 0), (4, some 2), (14, some 2), (15, some 0), (16, some 0), (17, some 0)] [0, 0, 0, 0, 0, 0, 0, 0, 0, 0, 0, 0, 0, 0, 2, 0, 0, 0] (Sof mm) (Sof mm) (fun _ h => h) (by kernel_rfl) rfl rfl (by kernel_rfl) (fun w13 hc => ?_)
    have mm := mm.frame hc
    refine q01 rfl (fun w => r_mvi rfl) ?_
    refine q01 rfl (fun w => r_eq rfl rfl) ?_
    refine q01 rfl (fun w => r_mvb rfl) ?_
    refine q0T rfl rfl rfl (fun h w => r_mvs rfl) ?_
    refine q0T rfl rfl rfl (fun h w => r_mvs rfl) ?_
    refine q0T rfl rfl rfl (fun h w => r_mvi rfl) ?_
    refine q0T rfl rfl rfl (fun h w => r_cv (sel_t h :) e35) ?_
    refine q0T rfl rfl rfl (fun h w => r_mvs rfl) ?_
    refine q0T rfl rfl rfl (fun h w => r_len (sel_t h :)) ?_
    refine q0T rfl rfl rfl (fun h w => r_sub (sel_t h :) rfl e47) ?_
    refine q0T rfl rfl rfl (fun h w => r_rem (sel_t h :) (sel_t h :) (by omega) e48) ?_
    refine q0T rfl rfl rfl (fun h w => r_add rfl (sel_t h :) e49) ?_
    refine q0T rfl rfl rfl (fun h w => r_slh (sel_t h :) (sel_t h :) (by omega) (by omega)) ?_
    refine qAT rfl rfl rfl (fun h w m => r_b2s (sel_t h :) (m.c 5 rfl) (by omega)) mm ?_
    refine qAT rfl rfl rfl (fun h w m => r_b2s (sel_t h :) ((m.c 2 rfl).takeb i) (by rw [hl2]; rfl)) mm ?_
    refine q0T rfl rfl rfl (fun h w => r_seq (sel_t h :) (sel_t h :)) ?_
    refine q01 rfl (fun w => r_and rfl rfl) ?_
    refine q01 rfl (fun w => r_asb rfl) ?_
    refine qn ?_
    refine c_ret (ret1 rfl rfl ⟨congrArg Value.bool (?_ : _ = true), mm.chg⟩)
    simp
  have hne : ¬ cd = 0 := by simpa using h
  refine c_sreg rfl ?_
  refine s1 (r_mvi rfl) ?_
  refine s1 (r_eq rfl rfl) ?_
  refine s1 (r_mvb rfl) ?_
  refine sT rfl rfl (fun h => r_mvi rfl) ?_
  refine sT rfl rfl (fun h => r_eq (sel_t h :) rfl) ?_
  refine sT rfl rfl (fun h => r_mvb (sel_t h :)) ?_
  refine sFs rfl rfl (fun h => r_mvi rfl) ?_
  refine sFs rfl rfl (fun h => r_eq (sel_t h :) rfl) ?_
  refine sT rfl rfl (fun h => r_or (sel_t h :) (sel_and h :)) ?_
  refine s1 (r_and rfl rfl) ?_
  refine s1 (r_asb rfl) ?_
  refine wn ?_
  refine c_ret (ret1 rfl rfl ⟨congrArg Value.bool (?_ : _ = true), mm.chg⟩)
  simp
  rcases h3 with h3 | h3 | h3
  · exact absurd h3 hne
  · exact .inl h3
  · exact .inr h3
end Go.Proofs.Ytgdbbaggkoillaa

