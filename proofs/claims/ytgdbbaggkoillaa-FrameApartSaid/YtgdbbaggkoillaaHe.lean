/- kithlaw07.FrameApart: the walk. -/
import Derived.Test.YtgdbbaggkoillaaHa
import Derived.Test.YtgdbbaggkoillaaHb
namespace Go.Proofs.Ytgdbbaggkoillaa
open K
set_option maxRecDepth 100000
set_option maxHeartbeats 4000000

theorem putF_inj {x y : Rec} (hx : frMay x = true) (hy : frMay y = true) : putF x = putF y ↔ x = y := by
  constructor
  · intro h
    have h1 := takeF_put hx
    rw [h, takeF_put hy] at h1
    injection h1 with h1
    exact h1.symm
  · rintro rfl; rfl
theorem c_FrameApart (x0 : Rec) (a : Option Addr) (cap : Nat) (hin : RecIn x0) (y0 : Rec) (a' : Option Addr) (cap' : Nat) (hin' : RecIn y0) (w : World) (H : Cells w a (evsC x0.es)) (H' : Cells w a' (evsC y0.es)) : Cl Try.prog 13 #[.agg (recV x0 a cap).toArray, .agg (recV y0 a' cap').toArray] w (fun v w' => v = .bool true ∧ Chg No w w') := by
  refine f_enter (args := [_, _]) Try.func13 rfl rfl ?_
  have mm := Mem.nil No w
  have ok := frFit_ok x0
  have ok' := frFit_ok y0
  have hmf := frMay_of ok
  have hmf' := frMay_of ok'
  have hpe : frPut (frFit x0) = putF (frFit x0) := by unfold frPut; rw [hmf]; rfl
  have hpe' : frPut (frFit y0) = putF (frFit y0) := by unfold frPut; rw [hmf']; rfl
  have hwx := frW_of ok
  have hwy := frW_of ok'
  have hlen := putF_len ok
  have htk := takeF_put hmf
  have hinj := putF_inj hmf hmf'
  have cx := fun (w' : World) (hw : Cells w' a (evsC x0.es)) => c_fit07 x0 (cap := cap) w' hw hin
  have cy := fun (w' : World) (hw : Cells w' a' (evsC y0.es)) => c_fit07 y0 (cap := cap') w' hw hin'
  have px := fun (aa : Option Addr) (cc : Nat) (w' : World) (hw : Cells w' aa (evsC (frFit x0).es)) => c_fPut (frFit x0) (cap := cc) w' hw hwx.c
  have py := fun (aa : Option Addr) (cc : Nat) (w' : World) (hw : Cells w' aa (evsC (frFit y0).es)) => c_fPut (frFit y0) (cap := cc) w' hw hwy.c
  rw [hpe, hmf] at px
  rw [hpe', hmf'] at py
  generalize frFit x0 = x at *
  generalize frFit y0 = y at *
  refine c_sreg rfl ?_
  refine so (o_bxa mm rfl fun b2 w2 mm => ?_)
  refine so (o_bxa mm rfl fun b3 w3 mm => ?_)
  refine s1 (r_asb rfl) ?_
  refine wn ?_
  refine c_sreg rfl ?_
  refine so (o_c0 (c_shown07 _) ?_)
  rintro _ w4 ⟨rfl, hc⟩
  have mm := mm.frame hc
  refine s1 (r_asb rfl) ?_
  refine wn ?_
  refine c_sreg rfl ?_
  refine s1 (r_lda rfl (mm.b 0 rfl) rfl) ?_
  refine so (o_c1 rfl (cx _ (mm.ro H)) ?_)
  rintro _ w5 ⟨a5, c5, rfl, hc, hn⟩
  have mm := mm.new hc hn
  refine so (o_al mm fun b6 w6 mm => ?_)
  refine ss (o_sta mm 3 rfl rfl rfl rfl rfl (Nat.le_of_ble_eq_true rfl) fun w7 mm => ?_)
  refine wn ?_
  have mm : Mem w No _ [bk b2 (recV x0 a cap) 47, bk b3 (recV y0 a' cap') 47, own 25 12 a5 x.es.length c5 (evsC x.es), bk b6 (recV x a5 c5) 47] := mm
  refine c_sreg rfl ?_
  refine s1 (r_lda rfl (mm.b 1 rfl) rfl) ?_
  refine so (o_c1 rfl (cy _ (mm.ro H')) ?_)
  rintro _ w8 ⟨a8, c8, rfl, hc, hn⟩
  have mm := mm.new hc hn
  refine so (o_al mm fun b9 w9 mm => ?_)
  refine ss (o_sta mm 5 rfl rfl rfl rfl rfl (Nat.le_of_ble_eq_true rfl) fun w10 mm => ?_)
  refine wn ?_
  have mm : Mem w No _ [bk b2 (recV x0 a cap) 47, bk b3 (recV y0 a' cap') 47, own 25 12 a5 x.es.length c5 (evsC x.es), bk b6 (recV x a5 c5) 47, own 25 12 a8 y.es.length c8 (evsC y.es), bk b9 (recV y a8 c8) 47] := mm
  refine c_sreg rfl ?_
  refine s1 (r_lda rfl (mm.b 3 rfl) rfl) ?_
  refine so (o_c1 rfl (px a5 c5 _ (mm.c 2 rfl)) ?_)
  rintro _ w11 ⟨a11, c11, rfl, hc, hn⟩
  have mm := mm.new hc hn
  refine s1 (r_mvu rfl) ?_
  refine s1 (r_exts rfl rfl) ?_
  refine s1 (r_exti rfl rfl) ?_
  refine s1 (r_ass rfl) ?_
  refine s1 (r_asi rfl) ?_
  refine wn ?_
  refine c_sreg rfl ?_
  refine s1 (r_lda rfl (mm.b 5 rfl) rfl) ?_
  refine so (o_c1 rfl (py a8 c8 _ (mm.c 4 rfl)) ?_)
  rintro _ w12 ⟨a12, c12, rfl, hc, hn⟩
  have mm := mm.new hc hn
  refine s1 (r_mvu rfl) ?_
  refine s1 (r_exts rfl rfl) ?_
  refine s1 (r_exti rfl rfl) ?_
  refine s1 (r_ass rfl) ?_
  refine s1 (r_asi rfl) ?_
  refine wn ?_
  have cT := c_fTake (putF x) (by omega) _ _ (Sl.own mm 6 rfl)
  rw [htk] at cT
  refine c_sreg rfl ?_
  refine s1 (r_mvs rfl) ?_
  refine so (o_c1 rfl cT ?_)
  rintro _ w13 ⟨a13, c13, rfl, hc, hn⟩
  have mm := mm.new hc hn
  refine s1 (r_mvu rfl) ?_
  refine s1 (r_extg rfl rfl) ?_
  refine s1 (r_exti rfl rfl) ?_
  refine so (o_al mm fun b14 w14 mm => ?_)
  refine ss (o_sta mm 9 rfl rfl rfl rfl rfl (Nat.le_of_ble_eq_true rfl) fun w15 mm => ?_)
  refine s1 (r_asi rfl) ?_
  refine wn ?_
  have mm : Mem w No _ [bk b2 (recV x0 a cap) 47, bk b3 (recV y0 a' cap') 47, own 25 12 a5 x.es.length c5 (evsC x.es), bk b6 (recV x a5 c5) 47, own 25 12 a8 y.es.length c8 (evsC y.es), bk b9 (recV y a8 c8) 47, own 5 1 a11 (putF x).length c11 (u8s (putF x)), own 5 1 a12 (putF y).length c12 (u8s (putF y)), own 25 12 a13 x.es.length c13 (evsC x.es), bk b14 (recV x a13 c13) 47] := mm
  refine c_sdraw2 mixed [(0, some 0), (1, some 0), (2, some 0), (3, some 0), (4, some 0), (5, some 0), (6, some 0), (7, some 0), (8, some 0), (9, some 0), (10, some 0), (11, some 0), (12, some 0), (13, some 0), (14, some 0), (16, some 0), (15, some 2), (17, some 2), (18, some 0), (19, some 2), (20, some 2), (21, none), (22, some 0), (23, some 0), (24, some 0), (25, some 2), (26, some 2), (28, some 2), (29, some 2), (27, none), (30, none), (31, some 0), (32, some 0), (33, some 0)] [0, 0, 0, 0, 0, 0, 0, 0, 0, 0, 0, 0, 0, 0, 0, 0, 0, 2, 0, 2, 2, 2, 0, 0, 0, 0, 2, 2, 2, 2, 0, 0, 0, 0] (Sof mm) (Sof mm) (fun _ h => h) (by kernel_rfl) rfl rfl (by kernel_rfl) (fun w16 hc => ?_)
  have mm := mm.frame hc
  refine q01 rfl (fun w => r_mvb rfl) ?_
  refine q01 rfl (fun w => r_mvb rfl) ?_
  refine q0T rfl rfl rfl (fun h w => r_mvi rfl) ?_
  refine q0T rfl rfl rfl (fun h w => r_eq (sel_t h :) rfl) ?_
  refine q01 rfl (fun w => r_and rfl rfl) ?_
  refine q01 rfl (fun w => r_mvb rfl) ?_
  refine q0T rfl rfl rfl (fun h w => r_mvi rfl) ?_
  refine q0T rfl rfl rfl (fun h w => r_eq (sel_t h :) rfl) ?_
  refine q01 rfl (fun w => r_and rfl rfl) ?_
  refine q01 rfl (fun w => r_mvb rfl) ?_
  refine q0T rfl rfl rfl (fun h w => r_mvi rfl) ?_
  refine q0T rfl rfl rfl (fun h w => r_eq (sel_t h :) rfl) ?_
  refine q01 rfl (fun w => r_and rfl rfl) ?_
  refine q01 rfl (fun w => r_mvb rfl) ?_
  refine q0T rfl rfl rfl (fun h w => r_mvs rfl) ?_
  refine q0T rfl rfl rfl (fun h w => r_mvs rfl) ?_
  refine qAT rfl rfl rfl (fun h w m => r_b2s (sel_t h :) (m.c 6 rfl) rfl) mm ?_
  refine qAT rfl rfl rfl (fun h w m => r_b2s (sel_t h :) (m.c 7 rfl) rfl) mm ?_
  refine q0T rfl rfl rfl (fun h w => r_seq (sel_t h :) (sel_t h :)) ?_
  refine qAT rfl rfl rfl (fun h w m => r_lda rfl (m.b 3 rfl) rfl) mm ?_
  refine qAT rfl rfl rfl (fun h w m => r_lda rfl (m.b 5 rfl) rfl) mm ?_
  refine qTw (I := Sof mm) rfl rfl rfl mm (fun h => o_c2 (sel_t h :) (sel_t h :) (c_same07 x y hwx hwy (a := a5) (c := c5) (a' := a8) (c' := c8) _ (mm.c 2 rfl) (mm.c 4 rfl)) (fun _ _ hh => ⟨hh.1, mm.frame hh.2⟩)) (fun w17 mm => ⟨mm, ?_⟩)
  refine q0T rfl rfl rfl (fun h w => r_beq Try.underlying4 (sel_t h :) (sel_t h :)) ?_
  refine q01 rfl (fun w => r_and rfl rfl) ?_
  refine q01 rfl (fun w => r_mvb rfl) ?_
  refine qAT rfl rfl rfl (fun h w m => r_lda rfl (m.b 9 rfl) rfl) mm ?_
  refine qAT rfl rfl rfl (fun h w m => r_lda rfl (m.b 5 rfl) rfl) mm ?_
  refine qAT rfl rfl rfl (fun h w m => r_lda rfl (m.b 3 rfl) rfl) mm ?_
  refine qAT rfl rfl rfl (fun h w m => r_lda rfl (m.b 5 rfl) rfl) mm ?_
  refine qTw (I := Sof mm) rfl rfl rfl mm (fun h => o_c2 (sel_t h :) (sel_t h :) (c_same07 x y hwx hwy (a := a13) (c := c13) (a' := a8) (c' := c8) _ (mm.c 8 rfl) (mm.c 4 rfl)) (fun _ _ hh => ⟨hh.1, mm.frame hh.2⟩)) (fun w18 mm => ⟨mm, ?_⟩)
  refine qTw (I := Sof mm) rfl rfl rfl mm (fun h => o_c2 (sel_t h :) (sel_t h :) (c_same07 x y hwx hwy (a := a5) (c := c5) (a' := a8) (c' := c8) _ (mm.c 2 rfl) (mm.c 4 rfl)) (fun _ _ hh => ⟨hh.1, mm.frame hh.2⟩)) (fun w19 mm => ⟨trivial, ?_⟩)
  refine q0T rfl rfl rfl (fun h w => r_beq Try.underlying4 (sel_t h :) (sel_t h :)) ?_
  refine q01 rfl (fun w => r_and rfl rfl) ?_
  refine q01 rfl (fun w => r_asb rfl) ?_
  refine qn ?_
  refine c_ret (ret1 rfl rfl ⟨congrArg Value.bool (?_ : _ = true), mm.chg⟩)
  simp [hinj]
end Go.Proofs.Ytgdbbaggkoillaa

