/- kithlaw07.FrameBack: the walk. -/
import Derived.Test.YtgdbbaggkoillaaHa
import Derived.Test.YtgdbbaggkoillaaHb
namespace Go.Proofs.Ytgdbbaggkoillaa
open K
set_option maxRecDepth 100000
set_option maxHeartbeats 4000000

theorem takeF_more {x : Rec} (hm : frMay x = true) : takeF (sealL (vput (bodyF x).length ++ bodyF x ++ [0])) = (rec0, 3) := by
  have ok := frMay_ok hm
  have hl := bodyF_len ok
  have hv := vput_len10 (bodyF x).length (by omega)
  unfold takeF
  rw [if_neg (by rw [sealL_length, List.length_append, List.length_append]; show ¬ 2048 < _ + _ + 1 + 4; omega), openL_seal, List.append_assoc]
  simp only
  rw [vtake_put _ (Nat.le_trans (vput_len 3 _ (by omega)) (by decide))]
  simp only
  rw [if_pos]
  right
  rw [List.length_append, List.length_append]
  show ¬ _ = _ + (_ + 1) - _
  omega
theorem takeF_less {x : Rec} (hm : frMay x = true) : takeF (sealL ((vput (bodyF x).length ++ bodyF x).take ((vput (bodyF x).length ++ bodyF x).length - 1))) = (rec0, 3) := by
  have ok := frMay_ok hm
  have hl := bodyF_len ok
  have h3 := bodyF_len3 x
  have hv := vput_len10 (bodyF x).length (by omega)
  have e1 : (vput (bodyF x).length ++ bodyF x).take ((vput (bodyF x).length ++ bodyF x).length - 1) = vput (bodyF x).length ++ (bodyF x).take ((bodyF x).length - 1) := by
    rw [List.take_append, List.take_of_length_le (by rw [List.length_append]; omega), List.length_append]
    congr 2
    omega
  rw [e1]
  unfold takeF
  rw [if_neg (by rw [sealL_length, List.length_append, List.length_take]; omega), openL_seal]
  simp only
  rw [vtake_put _ (Nat.le_trans (vput_len 3 _ (by omega)) (by decide))]
  simp only
  rw [if_pos]
  right
  rw [List.length_append, List.length_take]
  omega
theorem c_fTakeE {b : List UInt8} {x : Rec} {cd : Int} (h : takeF b = (x, cd)) (hb : b.length ≤ 1099511627776) (v : Value) (w : World) (hs : Sl w v b) : Cl Try.prog 34 #[v] w
    (fun r w' => ∃ a' c', r = .tuple #[.agg (recV x a' c').toArray, .int .i64 cd] ∧ Chg No w w' ∧ NewR w w' a' c' x.es) := by
  have hT := c_fTake b hb v w hs
  rw [h] at hT
  exact hT
theorem slOwnE {w0 w : World} {F0 : Nat → Prop} {L : List It} (mm : Mem w0 F0 w L) (k : Nat) {a : Option Addr} {n c : Nat} {cs : List Value} {b : List UInt8} (hk : nth L k = some (own 5 1 a n c cs)) (hn : n = b.length) (hc : cs = u8s b) : Sl w (.slice a n c) b := by
  subst hn; subst hc; exact Sl.own mm k hk
theorem Sl.cutG {w : World} {a : Option Addr} {c : Nat} {s : List UInt8} (h : Cells w a (u8s s)) (hc : s.length ≤ c) (i : Nat) (hi : i ≤ s.length) : Sl w (.slice a (((i : Nat) : Int)).toNat c) (s.take i) :=
  ⟨a, c, by rw [List.length_take, Nat.min_eq_left hi]; rfl, by rw [List.length_take]; omega, h.takeb i⟩
theorem c_FrameBack (x0 : Rec) (a : Option Addr) (cap : Nat) (hin : RecIn x0) (xb : List UInt8) (v : Value) (hinb : xb.length < 2 ^ 47) (w : World) (H : Cells w a (evsC x0.es)) (hsb : Sl w v xb) : Cl Try.prog 10 #[.agg (recV x0 a cap).toArray, v] w (fun v w' => v = .bool true ∧ Chg No w w') := by
  obtain ⟨ab, cb, rfl, hcb, Hb⟩ := hsb
  refine f_enter (args := [_, _]) Try.func10 rfl rfl ?_
  have mm := Mem.nil No w
  have ok := frFit_ok x0
  have hmf := frMay_of ok
  have hpe : frPut (frFit x0) = putF (frFit x0) := by unfold frPut; rw [hmf]; rfl
  have hwx := frW_of ok
  have hlen := putF_len ok
  have hpp := putF_pos (frFit x0)
  have hne := putF_ne (frFit x0)
  have htk := takeF_put hmf
  have hmore := takeF_more hmf
  have hless := takeF_less hmf
  have hput : putF (frFit x0) = sealL (vput (bodyF (frFit x0)).length ++ bodyF (frFit x0)) := rfl
  have cx := c_fit07 x0 (a := a) (cap := cap)
  have px := fun (aa : Option Addr) (cc : Nat) (w' : World) (hw : Cells w' aa (evsC (frFit x0).es)) => c_fPut (frFit x0) (cap := cc) w' hw hwx.c
  rw [hpe, hmf] at px
  generalize hI : vput (bodyF (frFit x0)).length ++ bodyF (frFit x0) = I at *
  generalize frFit x0 = x at *
  have hSl := sealL_length I
  rw [← hput] at hSl
  generalize hS : putF x = S at *
  have htI : S.take (S.length - 4) = I := by
    rw [hput, sealL_length, Nat.add_sub_cancel]
    unfold sealL
    rw [List.take_left]
  have htJ : S.take (S.length - 5) = I.take (I.length - 1) := by
    have h1 : S.length - 5 = I.length - 1 := by omega
    rw [h1, hput]
    unfold sealL
    rw [List.take_append_of_le_length (by omega)]
  refine c_sreg rfl ?_
  refine so (o_bxa mm rfl fun b2 w2 mm => ?_)
  refine s1 (r_asb rfl) ?_
  refine wn ?_
  refine c_sreg rfl ?_
  refine so (o_c0 (c_shown07 _) ?_)
  rintro _ w3 ⟨rfl, hc⟩
  have mm := mm.frame hc
  refine s1 (r_asb rfl) ?_
  refine wn ?_
  refine c_sreg rfl ?_
  refine s1 (r_lda rfl (mm.b 0 rfl) rfl) ?_
  refine so (o_c1 rfl (cx _ (mm.ro H) hin) ?_)
  rintro _ w4 ⟨a4, c4, rfl, hc, hn⟩
  have mm := mm.new hc hn
  refine so (o_al mm fun b5 w5 mm => ?_)
  refine ss (o_sta mm 2 rfl rfl rfl rfl rfl (Nat.le_of_ble_eq_true rfl) fun w6 mm => ?_)
  refine wn ?_
  have mm : Mem w No _ [bk b2 (recV x0 a cap) 47, own 25 12 a4 x.es.length c4 (evsC x.es), bk b5 (recV x a4 c4) 47] := mm
  refine c_sreg rfl ?_
  refine s1 (r_lda rfl (mm.b 2 rfl) rfl) ?_
  refine so (o_c1 rfl (px a4 c4 _ (mm.c 1 rfl)) ?_)
  rintro _ w7 ⟨a7, c7, rfl, hc, hn⟩
  have mm := mm.new hc hn
  refine s1 (r_mvu rfl) ?_
  refine s1 (r_exts rfl rfl) ?_
  refine s1 (r_exti rfl rfl) ?_
  refine s1 (r_ass rfl) ?_
  refine s1 (r_asi rfl) ?_
  refine wn ?_
  refine c_sreg rfl ?_
  refine s1 (r_mvs rfl) ?_
  refine so (o_c1 rfl (c_fTakeE htk (by omega) _ _ (Sl.own mm 3 rfl)) ?_)
  rintro _ w8 ⟨a8, c8, rfl, hc, hn⟩
  have mm := mm.new hc hn
  refine s1 (r_mvu rfl) ?_
  refine s1 (r_extg rfl rfl) ?_
  refine s1 (r_exti rfl rfl) ?_
  refine so (o_al mm fun b9 w9 mm => ?_)
  refine ss (o_sta mm 5 rfl rfl rfl rfl rfl (Nat.le_of_ble_eq_true rfl) fun w10 mm => ?_)
  refine s1 (r_asi rfl) ?_
  refine wn ?_
  have mm : Mem w No _ [bk b2 (recV x0 a cap) 47, own 25 12 a4 x.es.length c4 (evsC x.es), bk b5 (recV x a4 c4) 47, own 5 1 a7 S.length c7 (u8s S), own 25 12 a8 x.es.length c8 (evsC x.es), bk b9 (recV x a8 c8) 47] := mm
  refine c_sreg rfl ?_
  refine s1 (r_lda rfl (mm.b 2 rfl) rfl) ?_
  refine s1 (r_lda rfl (mm.b 5 rfl) rfl) ?_
  refine so (o_c2 rfl rfl (c_same07 x x hwx hwx (a := a4) (c := c4) (a' := a8) (c' := c8) _ (mm.c 1 rfl) (mm.c 4 rfl)) ?_)
  rintro _ w11 ⟨rfl, hc⟩
  have mm := mm.frame hc
  refine s1 (r_asb rfl) ?_
  refine wn ?_
  refine c_seq ?_
  refine c_sreg rfl ?_
  refine s1 (r_mvb rfl) ?_
  refine s1 (r_not rfl) ?_
  refine s1 (r_mvb rfl) ?_
  refine sF rfl rfl (fun h => r_mvi rfl) ?_
  refine sF rfl rfl (fun h => r_ne (sel_t h :) rfl) ?_
  refine s1 (r_or rfl rfl) ?_
  refine s1 (r_mvb rfl) ?_
  refine sF rfl rfl (fun h => r_mvi rfl) ?_
  refine sF rfl rfl (fun h => r_ne (sel_t h :) rfl) ?_
  refine s1 (r_or rfl rfl) ?_
  refine s1 (r_mvb rfl) ?_
  refine sF rfl rfl (fun h => r_mvb rfl) ?_
  refine sF rfl rfl (fun h => r_not (sel_t h :)) ?_
  refine s1 (r_or rfl rfl) ?_
  refine s1 (r_mvb rfl) ?_
  refine sF rfl rfl (fun h => r_mvs rfl) ?_
  refine sF rfl rfl (fun h => r_len (sel_t h :)) ?_
  refine sF rfl rfl (fun h => r_lt (sel_t h :) rfl) ?_
  refine s1 (r_or rfl rfl) ?_
  refine s1 (r_mvb rfl) ?_
  refine sF rfl rfl (fun h => r_mvs rfl) ?_
  refine sF rfl rfl (fun h => r_len (sel_t h :)) ?_
  refine sF rfl rfl (fun h => r_gt (sel_t h :) rfl) ?_
  refine s1 (r_or rfl rfl) ?_
  refine wn ?_
  refine c_cond rfl (fun h => ?_) (fun h => (c_skip (t_n ?_)))
  · exfalso
    simp at h
    omega
  clear h
  have e66 : IntKind.i64.wrap (((S.length : Nat) : Int) - 4) = ((S.length - 4 : Nat) : Int) := by rw [wi (by omega) (by omega)]; omega
  have e79 : IntKind.i64.wrap (((S.length : Nat) : Int) - 5) = ((S.length - 5 : Nat) : Int) := by rw [wi (by omega) (by omega)]; omega
  have hcs := own_le (mm.o 3 rfl)
  have hcI : ∀ w', Cells w' a7 (u8s S) → Cells w' a7 (u8s I) := fun w' Hw => by have := Hw.takeb (S.length - 4); rwa [htI] at this
  have hcJ : ∀ w', Cells w' a7 (u8s S) → Sl w' (.slice a7 (((S.length - 5 : Nat) : Int)).toNat c7) (I.take (I.length - 1)) := fun w' Hw => by have := Sl.cutG Hw hcs (S.length - 5) (by omega); rwa [htJ] at this
  have hl9 : (I ++ [0]).length = 0 + (S.length - 4) + 1 := by rw [List.length_append]; show I.length + 1 = _; omega
  refine c_sreg rfl ?_
  refine so (o_bs0 mm fun a12 c12 w12 mm => ?_)
  refine s1 (r_mvs rfl) ?_
  refine s1 (r_mvs rfl) ?_
  refine s1 (r_len rfl) ?_
  refine s1 (r_sub rfl rfl e66) ?_
  refine s1 (r_slh rfl rfl (by omega) (by omega)) ?_
  refine so (o_ap mm 6 rfl rfl rfl (src_cells (n := S.length - 4) (hcI _ (mm.c 3 rfl)) (by rw [u8s_length]; omega) (ones_u8s _) (by decide)) (by omega) (by unfold maxLen; omega) fun a13 c13 w13 mm => ?_)
  refine so (o_bi1 mm rfl fun a14 c14 w14 mm => ?_)
  refine so (o_ap mm 6 rfl rfl rfl (src_own mm 7 rfl rfl) (by omega) (by unfold maxLen; omega) fun a15 c15 w15 mm => ?_)
  refine so (o_c1 rfl (c_seal (I ++ [0]) (by omega) _ _ (slOwnE mm 6 rfl hl9.symm (by rw [u8s_append]; rfl))) ?_)
  rintro _ w16 ⟨a16, c16, rfl, hc, hn⟩
  have mm := mm.new hc hn
  refine so (o_c1 rfl (c_fTakeE hmore (by rw [sealL_length]; omega) _ _ (Sl.own mm 8 rfl)) ?_)
  rintro _ w17 ⟨a17, c17, rfl, hc, hn⟩
  have mm := mm.new hc hn
  refine s1 (r_mvu rfl) ?_
  refine s1 (r_extg rfl rfl) ?_
  refine s1 (r_exti rfl rfl) ?_
  refine so (o_al mm fun b18 w18 mm => ?_)
  refine ss (o_sta mm 10 rfl rfl rfl rfl rfl (Nat.le_of_ble_eq_true rfl) fun w19 mm => ?_)
  refine s1 (r_asi rfl) ?_
  refine wn ?_
  have mm : Mem w No _ [bk b2 (recV x0 a cap) 47, own 25 12 a4 x.es.length c4 (evsC x.es), bk b5 (recV x a4 c4) 47, own 5 1 a7 S.length c7 (u8s S), own 25 12 a8 x.es.length c8 (evsC x.es), bk b9 (recV x a8 c8) 47] := mm.pk [0, 1, 2, 3, 4, 5] (by decide)
  have hlJ : (I.take (I.length - 1)).length = I.length - 1 := by rw [List.length_take]; omega
  refine c_sreg rfl ?_
  refine s1 (r_mvs rfl) ?_
  refine s1 (r_mvs rfl) ?_
  refine s1 (r_len rfl) ?_
  refine s1 (r_sub rfl rfl e79) ?_
  refine s1 (r_slh rfl rfl (by omega) (by omega)) ?_
  refine so (o_c1 rfl (c_seal (I.take (I.length - 1)) (by omega) _ _ (hcJ _ (mm.c 3 rfl))) ?_)
  rintro _ w20 ⟨a20, c20, rfl, hc, hn⟩
  have mm := mm.new hc hn
  refine so (o_c1 rfl (c_fTakeE hless (by rw [sealL_length]; omega) _ _ (Sl.own mm 6 rfl)) ?_)
  rintro _ w21 ⟨a21, c21, rfl, hc, hn⟩
  have mm := mm.new hc hn
  refine s1 (r_mvu rfl) ?_
  refine s1 (r_extg rfl rfl) ?_
  refine s1 (r_exti rfl rfl) ?_
  refine so (o_al mm fun b22 w22 mm => ?_)
  refine ss (o_sta mm 8 rfl rfl rfl rfl rfl (Nat.le_of_ble_eq_true rfl) fun w23 mm => ?_)
  refine s1 (r_asi rfl) ?_
  refine wn ?_
  have mm : Mem w No _ [bk b2 (recV x0 a cap) 47, own 25 12 a4 x.es.length c4 (evsC x.es), bk b5 (recV x a4 c4) 47, own 5 1 a7 S.length c7 (u8s S), own 25 12 a8 x.es.length c8 (evsC x.es), bk b9 (recV x a8 c8) 47] := mm.pk [0, 1, 2, 3, 4, 5] (by decide)
  have hl21 : (xb.take 2100).length ≤ 2100 := by rw [List.length_take]; omega
  have cS := fun w' : World => c_short w xb (.slice ab xb.length cb) w' ⟨ab, cb, rfl, hcb, Hb⟩
  generalize xb.take 2100 = Z at cS hl21
  refine c_sreg rfl ?_
  refine s1 (r_mvs rfl) ?_
  refine so (o_c1 rfl (cS _) ?_)
  rintro _ w24 ⟨⟨af, cf, rfl, hcf, HF⟩, hc⟩
  have mm := mm.frame hc
  refine so (o_c1 rfl (c_seal Z (by omega) _ _ ⟨af, cf, rfl, hcf, mm.ro HF⟩) ?_)
  rintro _ w25 ⟨a25, c25, rfl, hc, hn⟩
  have mm := mm.new hc hn
  refine s1 (r_ass rfl) ?_
  refine wn ?_
  have hZl := sealL_length Z
  have hw2 := takeF_w (sealL Z)
  have hm2 := takeF_ok (b := sealL Z)
  rcases hy : takeF (sealL Z) with ⟨y, cd⟩
  rw [hy] at hw2 hm2
  have cT := c_fTakeE hy (by omega) _ _ (Sl.own mm 6 rfl)
  refine c_sreg rfl ?_
  refine s1 (r_mvs rfl) ?_
  refine so (o_c1 rfl cT ?_)
  rintro _ w26 ⟨a26, c26, rfl, hc, hn⟩
  have mm := mm.new hc hn
  refine s1 (r_mvu rfl) ?_
  refine s1 (r_extg rfl rfl) ?_
  refine s1 (r_exti rfl rfl) ?_
  refine so (o_al mm fun b27 w27 mm => ?_)
  refine ss (o_sta mm 8 rfl rfl rfl rfl rfl (Nat.le_of_ble_eq_true rfl) fun w28 mm => ?_)
  refine s1 (r_asi rfl) ?_
  refine wn ?_
  have mm : Mem w No _ [own 5 1 a25 (sealL Z).length c25 (u8s (sealL Z)), own 25 12 a26 y.es.length c26 (evsC y.es), bk b27 (recV y a26 c26) 47] := mm.pk [6, 7, 8] (by decide)
  refine c_seq ?_
  refine c_sreg rfl ?_
  refine s1 (r_mvi rfl) ?_
  refine s1 (r_eq rfl rfl) ?_
  refine wn ?_
  refine c_mid0 (fun e w' => e 13 = .int .i64 3 ∧ e 15 = .int .i64 3 ∧ Chg No w w') ?_ ?_
  · refine c_cond rfl (fun h => ?_) (fun h => (c_skip (t_n ?_)))
    · have h0 : cd = 0 := by simpa using h
      obtain ⟨_, hmy, hpy⟩ := hm2 h0
      have hpy' : frPut y = sealL Z := by unfold frPut; rw [hmy]; exact hpy
      have cP := c_fPut y (cap := c26) _ (mm.c 1 rfl) hw2.c
      rw [hpy', hmy] at cP
      refine c_sreg rfl ?_
      refine s1 (r_lda rfl (mm.b 2 rfl) rfl) ?_
      refine so (o_c1 rfl cP ?_)
      rintro _ w29 ⟨a29, c29, rfl, hc, hn⟩
      have mm := mm.new hc hn
      refine s1 (r_mvu rfl) ?_
      refine s1 (r_exts rfl rfl) ?_
      refine s1 (r_exti rfl rfl) ?_
      refine s1 (r_ass rfl) ?_
      refine s1 (r_asi rfl) ?_
      refine wn ?_
      refine c_sreg rfl ?_
      refine s1 (r_mvi rfl) ?_
      refine s1 (r_ne rfl rfl) ?_
      refine s1 (r_mvb rfl) ?_
      refine sF rfl rfl (fun h => r_mvs rfl) ?_
      refine sF rfl rfl (fun h => r_b2s (sel_t h :) (mm.c 3 rfl) rfl) ?_
      refine sF rfl rfl (fun h => r_mvs rfl) ?_
      refine sF rfl rfl (fun h => r_b2s (sel_t h :) (mm.c 0 rfl) rfl) ?_
      refine sF rfl rfl (fun h => r_sne (sel_t h :) (sel_t h :)) ?_
      refine s1 (r_or rfl rfl) ?_
      refine wn ?_
      refine c_cond rfl (fun h => ?_) (fun h => (c_skip (t_n ?_)))
      · exfalso
        simp at h
      exact ⟨rfl, rfl, mm.chg⟩
    · exact ⟨rfl, rfl, mm.chg⟩
  clear mm
  rintro e w9 ⟨h13, h15, hcc⟩
  have mm := (Mem.nil No w).frame hcc
  refine c_sreg rfl ?_
  refine s1 (r_mvi h13) ?_
  refine s1 (r_eq rfl rfl) ?_
  refine s1 (r_mvb rfl) ?_
  refine sT rfl rfl (fun h => r_mvi h15) ?_
  refine sT rfl rfl (fun h => r_eq (sel_t h :) rfl) ?_
  refine s1 (r_and rfl rfl) ?_
  refine s1 (r_asb rfl) ?_
  refine wn ?_
  exact c_ret (ret1 rfl rfl ⟨rfl, mm.chg⟩)
end Go.Proofs.Ytgdbbaggkoillaa

