/- kithlaw07.FrameFields: the walk. -/
import Derived.Test.YtgdbbaggkoillaaFz
import Derived.Test.YtgdbbaggkoillaaFy
import Derived.Test.YtgdbbaggkoillaaFu
import Derived.Test.YtgdbbaggkoillaaKt
namespace Go.Proofs.Ytgdbbaggkoillaa
open K
set_option maxRecDepth 100000
set_option maxHeartbeats 4000000

theorem notF {x : Rec} (h : FrOk x → False) : frMay x = false := by
  cases hq : frMay x with
  | false => rfl
  | true => exact (h (frMay_ok hq)).elim
theorem evZ_mayF : evMay evZ ≠ 0 := by decide
theorem clk_set_wF {c : Clk} (h : ClkW c) (i : Nat) (v : Int) (hv : i64 v) : ClkW (c.set i v) := by
  obtain ⟨h0, h1, h2, h3, h4⟩ := h
  unfold Clk.set
  split <;> exact ⟨by first | exact hv | exact h0, by first | exact hv | exact h1, by first | exact hv | exact h2, by first | exact hv | exact h3, by first | exact hv | exact h4⟩
theorem clk_okF {c : Clk} (h : ∀ i, i < 5 → 0 ≤ c.get i ∧ c.get i ≤ 1048576) : ClkW c := clkW_of fun i hi => by have := h i hi; exact ⟨by omega, by omega⟩
theorem putF_pos (x : Rec) : 7 < (putF x).length := by
  have h := bodyF_len3 x
  have hv := vput_pos (bodyF x).length
  unfold putF
  rw [sealL_length, List.length_append]; omega
theorem putF_ne (x : Rec) : putF x ≠ [] := fun he => by have := putF_pos x; rw [he] at this; simp at this
theorem K.Mem.zSl {w0 w : World} {F0 : Nat → Prop} {L : List It} (m : Mem w0 F0 w L) (k n : Nat) {a : Option Addr} (hk : nth L k = some (own 5 1 a n n (zrep [.int .u8 0] n))) : Sl w (.slice a n n) (List.replicate n 0) := by
  refine ⟨a, n, by rw [List.length_replicate], by rw [List.length_replicate]; exact Nat.le_refl _, ?_⟩
  rw [← zrep_u8]; exact m.c k hk
theorem K.Mem.castdF {w0 w : World} {F0 : Nat → Prop} {I : It} {b : Nat} {cs cs' ds ds' : List Value} {T T' : TypeId} {sz n n' c : Nat} {a : Option Addr} (h : Mem w0 F0 w [I, own T' sz a n c ds, bk b cs T]) (hc : cs = cs') (hn : n = n') (hd : ds = ds') : Mem w0 F0 w [I, own T' sz a n' c ds', bk b cs' T] := by subst hc; subst hn; subst hd; exact h
theorem c_FrameFields (x0 : Rec) (a : Option Addr) (cap : Nat) (hin : RecIn x0) (m : Nat) (w : World) (H : Cells w a (evsC x0.es)) : Cl Try.prog 12 #[.agg (recV x0 a cap).toArray, .int .u8 (m : Nat)] w (fun v w' => v = .bool true ∧ Chg No w w') := by
  refine f_enter (args := [_, _]) Try.func12 rfl rfl ?_
  have mm := Mem.nil No w
  have ok := frFit_ok x0
  have h6 : ((m : Nat) : Int).tmod 6 = ((m % 6 : Nat) : Int) := by rw [Int.tmod_eq_emod_of_nonneg (by omega)]; rfl
  have h5 : ((m : Nat) : Int).tmod 5 = ((m % 5 : Nat) : Int) := by rw [Int.tmod_eq_emod_of_nonneg (by omega)]; rfl
  refine c_sreg rfl ?_
  refine so (o_bxa mm rfl fun b2 w2 mm => ?_)
  refine s1 (r_asb rfl) ?_
  refine wn ?_
  refine c_sreg rfl ?_
  refine so (o_c0 (c_shown07 _) ?_)
  rintro _ w3 ⟨rfl, hc⟩
  have mm := mm.frame hc
  refine s1 (r_asb rfl) ?_
  refine wn ?_
  refine c_sreg rfl ?_
  refine s1 (r_lda rfl (mm.b 0 rfl) rfl) ?_
  refine so (o_c1 rfl (c_fit07 x0 _ (mm.ro H) hin) ?_)
  rintro _ w4 ⟨a4, c4, rfl, hc, hn⟩
  have mm := mm.new hc hn
  refine so (o_al mm fun b5 w5 mm => ?_)
  refine ss (o_sta mm 2 rfl rfl rfl rfl rfl (Nat.le_of_ble_eq_true rfl) fun w6 mm => ?_)
  refine wn ?_
  generalize hx : frFit x0 = x at *
  have mm : Mem w No _ [bk b2 (recV x0 a cap) 47, own 25 12 a4 x.es.length c4 (evsC x.es), bk b5 (recV x a4 c4) 47] := mm
  have hmf := frMay_of ok
  have hpp := putF_pos x
  have hpe : frPut x = putF x := by unfold frPut; rw [hmf]; rfl
  refine c_sreg rfl ?_
  refine s1 (r_lda rfl (mm.b 2 rfl) rfl) ?_
  refine so (o_c1 rfl (c_fPut x _ (mm.c 1 rfl) (clk_okF ok.c)) ?_)
  rintro _ w7 ⟨a7, c7, rfl, hc, hn⟩
  have mm := mm.new hc hn
  refine s1 (r_mvu rfl) ?_
  refine s1 (r_exts rfl rfl) ?_
  refine s1 (r_exti rfl rfl) ?_
  refine s1 (r_ass rfl) ?_
  refine s1 (r_asi rfl) ?_
  refine wn ?_
  rw [hpe, hmf] at *
  refine c_seq ?_
  refine c_sreg rfl ?_
  refine s1 (r_mvb rfl) ?_
  refine s1 (r_not rfl) ?_
  refine s1 (r_mvb rfl) ?_
  refine sF rfl rfl (fun h => r_mvi rfl) ?_
  refine sF rfl rfl (fun h => r_ne (sel_t h :) rfl) ?_
  refine s1 (r_or rfl rfl) ?_
  refine s1 (r_mvb rfl) ?_
  refine sF rfl rfl (fun h => r_mvs rfl) ?_
  refine sF rfl rfl (fun h => r_len (sel_t h :)) ?_
  refine sF rfl rfl (fun h => r_eq (sel_t h :) rfl) ?_
  refine s1 (r_or rfl rfl) ?_
  refine wn ?_
  refine c_cond rfl (fun h => ?_) (fun h => (c_skip (t_n ?_)))
  · exfalso
    simp [putF_ne x] at h
  clear h
  have mm := mm.pk [0, 1, 2] (by decide)
  refine c_seq ?_
  refine c_sreg rfl ?_
  refine s1 (r_mvi rfl) ?_
  refine s1 (r_rem rfl rfl (by decide) (show ((m : Nat) : Int).tmod 6 = ((m % 6 : Nat) : Int) from h6)) ?_
  refine wn ?_
  refine c_mid0 (fun e w' => ∃ x' ao co, e 5 = .bool true ∧ e 6 = .pointer (some ⟨b5, 0, none⟩) ∧ Mem w No w' [bk b2 (recV x0 a cap) 47, own 25 12 ao x'.es.length co (evsC x'.es), bk b5 (recV x' ao co) 47] ∧ frMay x' = false ∧ ClkW x'.c) ?_ ?_
  · refine c_block ?_
    refine c_sreg rfl ?_
    refine s1 (r_eq rfl rfl) ?_
    refine s1 (r_asb rfl) ?_
    refine wn ?_
    refine c_cond rfl (fun h => ?_) (fun h => ?_)
    · refine c_region rfl ?_
      refine s1 (r_fa rfl) ?_
      refine ss (o_st mm 2 rfl rfl rfl rfl rfl fun w8 mm => ?_)
      refine wn (b_n (t_n ?_))
      exact ⟨{ x with upto := 1048577 }, _, _, rfl, rfl, mm, notF fun h => absurd h.u1 (by decide : ¬ (1048577 : Int) ≤ 1048576), clk_okF ok.c⟩
    have h0 : m % 6 ≠ 0 := by simp at h; omega
    clear h
    refine c_sreg rfl ?_
    refine s1 (r_eq rfl rfl) ?_
    refine s1 (r_asb rfl) ?_
    refine wn ?_
    refine c_cond rfl (fun h => ?_) (fun h => ?_)
    · have hi : m % 5 < 5 := Nat.mod_lt _ (by decide)
      refine c_region rfl ?_
      refine s1 (r_mvi rfl) ?_
      refine s1 (r_rem rfl rfl (by decide) (show ((m : Nat) : Int).tmod 5 = ((m % 5 : Nat) : Int) from h5)) ?_
      refine s1 (r_fa rfl) ?_
      refine s1 (r_ixa rfl rfl (by omega) (by omega)) ?_
      refine ss (o_st mm 2 rfl rfl rfl rfl (blt_rvi _ _ _ (m % 5) hi) fun w9 mm => ?_)
      refine wn (b_n (t_n ?_))
      have mm := mm.castc (setN_rvi _ _ _ (m % 5) hi _)
      refine ⟨{ x with c := x.c.set (m % 5) 1048577 }, _, _, rfl, rfl, mm, notF fun h => ?_, clk_set_wF (clk_okF ok.c) _ _ (by unfold i64; omega)⟩
      have := (h.c (m % 5) hi).2
      have h9 : (x.c.set (m % 5) 1048577).get (m % 5) = 1048577 := by rw [Clk.get_set _ _ _ hi hi, if_pos rfl]
      simp only at this
      rw [h9] at this
      omega
    have h1 : m % 6 ≠ 1 := by simp at h; omega
    clear h
    refine c_sreg rfl ?_
    refine s1 (r_eq rfl rfl) ?_
    refine s1 (r_asb rfl) ?_
    refine wn ?_
    refine c_cond rfl (fun h => ?_) (fun h => ?_)
    · refine c_region rfl ?_
      refine s1 (r_fa rfl) ?_
      refine ss (o_st mm 2 rfl rfl rfl rfl rfl fun w10 mm => ?_)
      refine wn (b_n (t_n ?_))
      exact ⟨{ x with r := 5 }, _, _, rfl, rfl, mm, notF fun h => absurd h.r5 (by decide : ¬ (5 : Int) < 5), clk_okF ok.c⟩
    have h2 : m % 6 ≠ 2 := by simp at h; omega
    clear h
    refine c_sreg rfl ?_
    refine s1 (r_eq rfl rfl) ?_
    refine s1 (r_asb rfl) ?_
    refine wn ?_
    refine c_cond rfl (fun h => ?_) (fun h => ?_)
    · refine c_region rfl ?_
      refine s1 (r_fa rfl) ?_
      refine ss (o_st mm 2 rfl rfl rfl rfl rfl fun w11 mm => ?_)
      refine wn (b_n (t_n ?_))
      exact ⟨{ x with kind := 6 }, _, _, rfl, rfl, mm, notF fun h => absurd (show fHas 6 = 0 from rfl) h.is, clk_okF ok.c⟩
    have h3 : m % 6 ≠ 3 := by simp at h; omega
    clear h
    refine c_sreg rfl ?_
    refine s1 (r_eq rfl rfl) ?_
    refine s1 (r_asb rfl) ?_
    refine wn ?_
    refine c_cond rfl (fun h => ?_) (fun h => ?_)
    · have hmost := ok.most
      refine c_region rfl ?_
      refine so (o_bs0 mm fun a12 c12 w12 mm => ?_)
      refine s1 (r_fa rfl) ?_
      refine s1 (r_ld rfl (mm.b 2 rfl) rfl) ?_
      refine so (o_ap mm 3 rfl rfl rfl (src_own mm 1 rfl (ones_evs _)) (by omega) (by unfold maxLen; omega) fun a13 c13 w13 mm => ?_)
      refine s1 (r_bd bN rfl) ?_
      refine so (o_bg mm (bg rfl bN) rfl rfl (by decide) (by decide) (by decide) fun a14 c14 w14 mm => ?_)
      refine so (o_ap mm 3 rfl rfl rfl (src_own mm 4 rfl rfl) (by omega) (by unfold maxLen; omega) fun a15 c15 w15 mm => ?_)
      refine s1 (r_fa rfl) ?_
      refine ss (o_st mm 2 rfl rfl rfl rfl rfl fun w16 mm => ?_)
      refine wn (b_n (t_n ?_))
      have mm := mm.pk [0, 3, 2] (by decide)
      have hle : (x.es ++ [evZ]).length = 0 + x.es.length + 1 := by rw [List.length_append, Nat.zero_add]; rfl
      have mm := mm.castdF (cs' := recV { x with es := x.es ++ [evZ] } _ _) (n' := (x.es ++ [evZ]).length) (ds' := evsC (x.es ++ [evZ])) (by simp only [recV, hle]; rfl) hle.symm (by rw [evsC_append]; rfl)
      refine ⟨{ x with es := x.es ++ [evZ] }, _, _, rfl, rfl, mm, notF fun h => ?_, clk_okF ok.c⟩
      exact evZ_mayF (h.es evZ (List.mem_append_right _ (List.mem_singleton.2 rfl)))
    refine c_region rfl ?_
    refine s1 (r_fa rfl) ?_
    refine ss (o_st mm 2 rfl rfl rfl rfl rfl fun w17 mm => ?_)
    refine wn (b_n (t_n ?_))
    exact ⟨{ x with kind := 0 }, _, _, rfl, rfl, mm, notF fun h => absurd (show fHas 0 = 0 from rfl) h.is, clk_okF ok.c⟩
  clear mm hc hn
  rintro e w9 ⟨x', ao, co, h5', h6', mm, hno, hw'⟩
  have hp : frPut x' = [] := by unfold frPut; rw [hno]; rfl
  refine c_sreg rfl ?_
  refine s1 (r_lda h6' (mm.b 2 rfl) rfl) ?_
  refine so (o_c1 rfl (c_fPut x' _ (mm.c 1 rfl) hw') ?_)
  rintro _ w18 ⟨a18, c18, rfl, hc, hn⟩
  have mm := mm.new hc hn
  refine s1 (r_mvu rfl) ?_
  refine s1 (r_exts rfl rfl) ?_
  refine s1 (r_exti rfl rfl) ?_
  refine s1 (r_ass rfl) ?_
  refine s1 (r_asi rfl) ?_
  refine wn ?_
  rw [hp, hno] at *
  have hrl : (List.replicate 2049 (0 : UInt8)).length = 2049 := List.length_replicate
  have htk : takeF (List.replicate 2049 0) = (rec0, 5) := by unfold takeF; rw [if_pos (by rw [hrl]; decide)]
  refine c_sreg rfl ?_
  refine so (o_mk mm (n := 2049) rfl rfl (by decide) (by decide) fun a19 w19 mm => ?_)
  refine so (o_c1 rfl (c_fTake (List.replicate 2049 0) (by rw [hrl]; decide) _ _ (mm.zSl 4 2049 rfl)) ?_)
  rintro _ w20 ⟨a20, c20, rfl, hc, hn⟩
  have mm := mm.new hc hn
  refine s1 (r_mvu rfl) ?_
  refine s1 (r_extg rfl rfl) ?_
  refine s1 (r_exti rfl rfl) ?_
  refine so (o_al mm fun b21 w21 mm => ?_)
  refine ss (o_sta mm 6 rfl rfl rfl rfl rfl (Nat.le_of_ble_eq_true rfl) fun w22 mm => ?_)
  refine s1 (r_asi rfl) ?_
  refine wn ?_
  rw [htk]
  refine c_sreg rfl ?_
  refine s1 (r_mvs rfl) ?_
  refine s1 (r_len rfl) ?_
  refine s1 (r_eq rfl rfl) ?_
  refine s1 (r_mvb rfl) ?_
  refine sT rfl rfl (fun h => r_mvi rfl) ?_
  refine sT rfl rfl (fun h => r_eq (sel_t h :) rfl) ?_
  refine s1 (r_and rfl rfl) ?_
  refine s1 (r_mvb rfl) ?_
  refine sT rfl rfl (fun h => r_mvi rfl) ?_
  refine sT rfl rfl (fun h => r_eq (sel_t h :) rfl) ?_
  refine s1 (r_and rfl rfl) ?_
  refine s1 (r_asb rfl) ?_
  refine wn ?_
  exact c_ret (ret1 rfl rfl ⟨rfl, mm.chg⟩)
end Go.Proofs.Ytgdbbaggkoillaa

