/- kithlaw20.HubCuts: plain. -/
import Derived.Test.YtbcpabfemejlgaaM18
import Derived.Test.YtbcpabfemejlgaaM8
import Derived.Test.YtbcpabfemejlgaaM13
namespace Go.Proofs.Ytbcpabfemejlgaa
open K
set_option maxRecDepth 100000
set_option maxHeartbeats 4000000

def clk7 : Clk := ⟨7, 0, 0, 0, 0⟩
def cutF (p : Bool) : Rec := bif p then pfr 0 1 1 else ⟨5, 0, 0, clk7, []⟩
def cutR (p : Bool) : Rec := bif p then ⟨5, 0, 0, clk0, pevs 0 1 1⟩ else ⟨6, 0, 0, clk7, []⟩
theorem cutF_may (p : Bool) : frMay (cutF p) = true := by cases p <;> decide
theorem cutR_may (p : Bool) : recMay (cutR p) = true := by cases p <;> decide
theorem cutR_ok (p : Bool) : RecOk (cutR p) := recMay_ok (cutR_may p)
theorem oneW {W : Int} (h1 : 1 ≤ W) (h4 : W ≤ 4) : W = 1 ∨ W = 2 ∨ W = 3 ∨ W = 4 := by omega
theorem oneN {n : Nat} (h1 : 1 ≤ n) (h4 : n ≤ 5) : n = 1 ∨ n = 2 ∨ n = 3 ∨ n = 4 ∨ n = 5 := by omega
theorem cut_push {n : Nat} {W : Int} (n1 : 1 ≤ n) (n5 : n ≤ 5) (h1 : 1 ≤ W) (h4 : W ≤ 4) : (poPush W (poNew n) 0 (pevs 0 1 1)).2 = (1, 0) ∧ (poSite (poPush W (poNew n) 0 (pevs 0 1 1)).1).len.c0 = 1 := by
  rcases oneN n1 n5 with rfl | rfl | rfl | rfl | rfl <;> rcases oneW h1 h4 with rfl | rfl | rfl | rfl <;> exact ⟨rfl, rfl⟩
theorem cut_ack {n : Nat} (n1 : 1 ≤ n) (n5 : n ≤ 5) : (poAck (poNew n) 0 clk7).2 = 0 ∧ (poAck (poNew n) 0 clk7).1.ack 0 = clk7 ∧ (poSite (poAck (poNew n) 0 clk7).1).len.c0 = 0 ∧ (poSite (poAck (poNew n) 0 clk7).1).acks.getD 0 clk0 = clk7 ∧ (poNew n).ack 0 = clk0 := by
  rcases oneN n1 n5 with rfl | rfl | rfl | rfl | rfl <;> exact ⟨rfl, rfl, rfl, rfl, rfl⟩
theorem cut_reply (c : Cf) {n : Nat} (n1 : 1 ≤ n) (n5 : n ≤ 5) (h1 : 1 ≤ c.w) (h4 : c.w ≤ 4) (d : Dk) (p : Bool) : ∃ po1 g, hbReply c ⟨true, poNew n, d⟩ (cutF p) = ((hbWrite ⟨true, po1, d⟩ (cutR p)).1, g, (hbWrite ⟨true, po1, d⟩ (cutR p)).2) := by
  cases p with
  | true =>
    refine ⟨(poPush c.w (poNew n) 0 (pevs 0 1 1)).1, ⟨2, 0, (poPush c.w (poNew n) 0 (pevs 0 1 1)).2.1, clk0, []⟩, ?_⟩
    have h := (cut_push n1 n5 h1 h4).1
    have hs : (poSite (poNew n)).len.get 0 = 0 := by rw [site_new n n5]; rfl
    unfold hbReply
    rw [if_pos (show (cutF true).kind = 1 from rfl)]
    show (if (poPush c.w (poNew n) 0 (pevs 0 1 1)).2.2 = 0 ∧ (poSite (poNew n)).len.get 0 < (poPush c.w (poNew n) 0 (pevs 0 1 1)).2.1 then _ else _) = _
    rw [if_pos ⟨by rw [h], by rw [h, hs]; decide⟩]
    rfl
  | false =>
    obtain ⟨a1, a2, _, _, a5⟩ := cut_ack n1 n5
    refine ⟨(poAck (poNew n) 0 clk7).1, rec0, ?_⟩
    unfold hbReply
    rw [if_neg (show ¬ (cutF false).kind = 1 by decide), if_neg (show ¬ (cutF false).kind = 3 by decide), if_pos (show (cutF false).kind = 5 from rfl)]
    show (if (poAck (poNew n) 0 clk7).2 = 0 ∧ (poAck (poNew n) 0 clk7).1.ack 0 ≠ (poNew n).ack 0 then _ else _) = _
    rw [if_pos ⟨a1, by rw [a2, a5]; decide⟩]
    rfl
theorem cut_write (po1 : Po) (p : Bool) (k : Nat) : hbWrite ⟨true, po1, ⟨[], false, some (k : Nat)⟩⟩ (cutR p) = (⟨false, po0, ⟨(putR (cutR p)).take k, true, none⟩⟩, 18) := by
  unfold hbWrite
  rw [if_neg (by rw [cutR_may]; decide)]
  show (if (18 : Int) ≠ 0 then (hbCrash ⟨true, po1, ⟨[] ++ (putR (cutR p)).take (min (max ((k : Nat) : Int) 0) ((putR (cutR p)).length : Nat)).toNat, true, none⟩⟩, 18) else _) = _
  rw [if_pos (by decide)]
  have e : (putR (cutR p)).take (min (max ((k : Nat) : Int) 0) ((putR (cutR p)).length : Nat)).toNat = (putR (cutR p)).take k := by
    by_cases h : k ≤ (putR (cutR p)).length
    · congr 1; omega
    · rw [List.take_of_length_le (by omega), List.take_of_length_le (by omega)]
  show (Hb.mk false po0 ⟨[] ++ _, true, none⟩, (18 : Int)) = _
  rw [e, List.nil_append]
theorem cut_take (c : Cf) {n : Nat} (hn : c.n = n) (n1 : 1 ≤ n) (n5 : n ≤ 5) (h1 : 1 ≤ c.w) (h4 : c.w ≤ 4) (p : Bool) (k : Nat) : hbTake c ⟨true, poNew n, ⟨[], false, some (k : Nat)⟩⟩ (frPut (cutF p)) = (⟨false, po0, ⟨(putR (cutR p)).take k, true, none⟩⟩, -1, [], 18) := by
  rw [hbTake_put rfl (cutF_may p) (show (cutF p).r < c.n by have : (cutF p).r = 0 := by cases p <;> rfl
                                                            omega)]
  obtain ⟨po1, g, hr⟩ := cut_reply c n1 n5 h1 h4 ⟨[], false, some (k : Nat)⟩ p
  rw [hr, cut_write, if_pos (Or.inl (show (18 : Int) ≠ 0 by decide))]
theorem cutR_len (p : Bool) : 7 ≤ (putR (cutR p)).length ∧ (putR (cutR p)).length ≤ 100 := by
  refine ⟨putR_len _, ?_⟩
  have h1 := vput_lenR (cutR_ok p)
  have h2 : (bodyR (cutR p)).length ≤ 90 := by cases p <;> decide +kernel
  have h3 := sealL_length (bodyR (cutR p))
  unfold putR
  rw [List.length_append]
  omega
/-- What is kept of it: nothing, or all. -/
theorem cut_split (p : Bool) (k : Nat) : ∃ rs t, (putR (cutR p)).take k = putsR rs ++ t ∧ StopR t ∧ ((rs = [] ∧ k < (putR (cutR p)).length) ∨ (rs = [cutR p] ∧ (putR (cutR p)).length ≤ k)) := by
  by_cases h : k < (putR (cutR p)).length
  · exact ⟨[], (putR (cutR p)).take k, rfl, stop_cut (cutR_ok p) k h, .inl ⟨rfl, h⟩⟩
  · exact ⟨[cutR p], [], by rw [List.take_of_length_le (by omega)]; simp [putsR], stop_nil, .inr ⟨rfl, by omega⟩⟩
theorem site_w {N : Nat} {W : Int} {p : Po} (ok : PoOk N W p) : HsW (poSite p) := by
  have hs : poSite p = siteTo p N := by unfold poSite; rw [ok.shs]
  have hg := site_get p N ok.n5 N (Nat.le_refl _)
  have hl := siteTo_len p N
  rw [hs]
  refine ⟨clkW_of fun i hi => ?_, clkW_of fun i hi => ?_, hl, fun x hx => ?_⟩
  · rw [(hg i hi).1]
    split
    · have h := ok.sh i (by assumption)
      have := h.base; have := h.len; unfold Sh.len at this
      exact ⟨by omega, by omega⟩
    · exact ⟨by decide, by decide⟩
  · rw [(hg i hi).2.1]
    split
    · have h := ok.sh i (by assumption)
      have := h.base; have := h.len
      exact ⟨by unfold Sh.len; omega, by omega⟩
    · exact ⟨by decide, by decide⟩
  · obtain ⟨j, hj, rfl⟩ := List.getElem_of_mem hx
    have e : (siteTo p N).acks[j] = (siteTo p N).acks.getD j clk0 := by rw [List.getD_eq_getElem?_getD, List.getElem?_eq_getElem hj]; rfl
    rw [e, (hg j (by omega)).2.2]
    split
    · exact clk_ok_w (ok.ack j (by assumption))
    · exact clk0_w
/-- How the hub stands behind the restart. -/
theorem cut_site {W : Int} {n : Nat} (n1 : 1 ≤ n) (n5 : n ≤ 5) (h1 : 1 ≤ W) (h4 : W ≤ 4) (p : Bool) (rs : List Rec) (hrs : rs = [] ∨ rs = [cutR p]) :
    (rs = [] → poSite (replay W n rs) = hs1) ∧ (rs = [cutR p] → poSite (replay W n rs) ≠ hs1 ∧ ((poSite (replay W n rs)).len.c0 = 1 ∨ (poSite (replay W n rs)).acks.getD 0 clk0 = clk7)) := by
  refine ⟨fun h => by rw [h]; exact site_new n n5, fun h => ?_⟩
  rw [h]
  cases p with
  | true =>
    have h5 := (cut_push n1 n5 h1 h4).2
    have e : replay W n [cutR true] = (poPush W (poNew n) 0 (pevs 0 1 1)).1 := rfl
    rw [e]
    refine ⟨fun h => ?_, .inl h5⟩
    rw [h] at h5
    exact absurd h5 (by decide)
  | false =>
    obtain ⟨_, _, _, h5, _⟩ := cut_ack n1 n5
    have e : replay W n [cutR false] = (poAck (poNew n) 0 clk7).1 := rfl
    rw [e]
    refine ⟨fun h => ?_, .inr h5⟩
    rw [h] at h5
    exact absurd h5 (by decide)
end Go.Proofs.Ytbcpabfemejlgaa
/- kithlaw20.HubCuts: the walk. -/
namespace Go.Proofs.Ytbcpabfemejlgaa
open K
set_option maxRecDepth 100000
set_option maxHeartbeats 4000000

theorem cutF_w (p : Bool) : ClkW (cutF p).c := by cases p <;> exact clk_ok_w (frMay_ok (cutF_may _)).c
theorem seg_agg (cs : List Value) (n : Nat) (h : cs.length = n) : Value.agg (seg cs 0 n).toArray = Value.agg cs.toArray := by rw [seg_all cs n h]
theorem getD_w {l : List Clk} (h : ∀ c ∈ l, ClkW c) {i : Nat} : ClkW (l.getD i clk0) := by
  rw [List.getD_eq_getElem?_getD]
  by_cases hi : i < l.length
  · rw [List.getElem?_eq_getElem hi]; exact h _ (List.getElem_mem hi)
  · rw [List.getElem?_eq_none (by omega)]; exact clk0_w
theorem clk7_w : ClkW clk7 := by unfold ClkW clk7 i64; simp
def op0 : Opv := ⟨0, 0, 0, 0, clk0, 0, 0, 0⟩
theorem c_push0 (w : World) : Cl Try.prog 11 #[.int .i64 0, .int .i64 0, .agg (opC op0).toArray] w (fun v w' => ∃ a c, v = .agg (recV (cutF true) a c).toArray ∧ Chg No w w' ∧ NewR w w' a c (cutF true).es) :=
  c_push 0 (by decide) 0 (by decide) (by decide) op0 w
theorem c_HubCuts (c0 : Cf) (p : Bool) (k : Nat) (hk : k ≤ 255) (w : World) : Cl Try.prog 5 #[.agg (cfC c0).toArray, .bool p, .int .u8 (k : Nat)] w (fun r w' => r = .bool true ∧ Chg No w w') := by
  have hfit := fun (w' : World) => c_fit11 c0 w'
  have hm := cfFit_may c0
  generalize cfFit c0 = d at hfit hm
  obtain ⟨n, hn, n1, n5, hW1, hW4⟩ := cf_n hm
  have okN : PoOk n d.w (poNew n) := poNew_ok n1 n5 hW1 hW4
  refine f_enter (args := [_, _, _]) Try.func5 rfl rfl ?_
  have mm := Mem.nil No w
  refine c_sreg rfl ?_
  refine so (o_bxa mm rfl fun b2 w2 mm => ?_)
  refine s1 (r_asb rfl) ?_
  refine wn ?_
  refine c_sreg rfl ?_
  refine so (o_c0 (c_shown20 _) ?_)
  rintro _ w3 ⟨rfl, hc⟩
  have mm := mm.frame hc
  refine s1 (r_asb rfl) ?_
  refine wn ?_
  refine c_sreg rfl ?_
  refine s1 (r_lda rfl (mm.b 0 rfl) rfl) ?_
  refine so (o_c1 rfl (hfit _) ?_)
  rintro _ w4 ⟨rfl, hc⟩
  have mm := mm.frame hc
  refine so (o_al mm fun b5 w5 mm => ?_)
  refine ss (o_sta mm 1 rfl rfl rfl rfl rfl (Nat.le_of_ble_eq_true rfl) fun w6 mm => ?_)
  refine wn ?_
  refine c_sreg rfl ?_
  refine s1 (r_lda rfl (mm.b 1 rfl) rfl) ?_
  refine so (o_c1 rfl (c_hbNew d n hn n5 hm _) ?_)
  rintro _ w7 ⟨z, rfl, hc, hn1⟩
  have mm := mm.new hc hn1
  refine s1 (r_mvu rfl) ?_
  refine s1 (r_extp rfl rfl) ?_
  refine s1 (r_exti rfl rfl) ?_
  refine s1 (r_asp rfl) ?_
  refine s1 (r_asi rfl) ?_
  refine wn ?_
  refine c_seq ?_
  refine c_sreg rfl ?_
  refine s1 (r_mvb rfl) ?_
  refine s1 (r_not rfl) ?_
  refine s1 (r_mvb rfl) ?_
  refine sF rfl rfl (fun h => r_mvp rfl) ?_
  refine sF rfl rfl (fun h => r_pnil Try.underlying25 (sel_t h :) rfl) ?_
  refine s1 (r_or rfl rfl) ?_
  refine s1 (r_mvb rfl) ?_
  refine sF rfl rfl (fun h => r_mvi rfl) ?_
  refine sF rfl rfl (fun h => r_ne (sel_t h :) rfl) ?_
  refine s1 (r_or rfl rfl) ?_
  refine wn ?_
  refine c_cond rfl (fun h => ?_) (fun h => (c_skip (t_n ?_)))
  · cases h
  clear h
  refine c_sreg rfl ?_
  refine s1 (r_bd (bi rfl bN) rfl) ?_
  refine s1 (r_bd (bi rfl (bg rfl bN)) rfl) ?_
  refine so (o_al mm fun b8 w8 mm => ?_)
  refine ss (o_sta mm 3 rfl rfl rfl rfl rfl (Nat.le_of_ble_eq_true rfl) fun w9 mm => ?_)
  refine wn ?_
  have mm : Mem w No _ [hbI d z (st0 n), bk b8 (recV ⟨5, 0, 0, clk7, []⟩ none 0) 40, own 67 12 none 0 0 []] := (mm.pk [2, 3] (by decide)).nilrow
  refine c_seq ?_
  refine c_sreg rfl ?_
  refine s1 (r_mvb rfl) ?_
  refine wn ?_
  refine c_mid0 (fun e w' => ∃ a cc, e 2 = .int .u8 (k : Nat) ∧ e 9 = .pointer (some ⟨z.q, 0, none⟩) ∧ e 11 = .pointer (some ⟨b8, 0, none⟩) ∧ Mem w No w' [hbI d z (st0 n), bk b8 (recV (cutF p) a cc) 40, own 67 12 a (cutF p).es.length cc (evsC (cutF p).es)]) ?_ ?_
  · cases p with
    | true =>
      refine c_cond rfl (fun h => ?_) (fun h => (c_skip (t_n ?_)))
      rotate_left
      · cases h
      clear h
      refine c_region rfl ?_
      refine s1 (r_bd bN rfl) ?_
      refine so (o_c3 rfl rfl rfl (c_push0 _) ?_)
      rintro _ w10 ⟨ap, cp, rfl, hc, hn2⟩
      have mm := mm.new hc hn2
      refine ss (o_sta mm 1 rfl rfl rfl rfl rfl (Nat.le_of_ble_eq_true rfl) fun w11 mm => ?_)
      refine wn (t_n ?_)
      exact ⟨ap, cp, rfl, rfl, rfl, mm.pk [0, 1, 3] (by decide)⟩
    | false =>
      refine c_cond rfl (fun h => ?_) (fun h => (c_skip (t_n ?_)))
      · cases h
      clear h
      exact ⟨none, 0, rfl, rfl, rfl, mm⟩
  clear mm
  rintro e w9 ⟨ap, cp, h2, h9, h11, mm⟩
  have hput := fun (w' : World) h1 => c_put07 (cutF p) (a := ap) (cap := cp) w' h1 (cutF_w p) (by cases p <;> decide)
  have hT0 := cut_take d hn n1 n5 hW1 hW4 p k
  have hBl := frPut_len (cutF p)
  generalize frPut (cutF p) = B at hput hT0 hBl
  refine c_sreg rfl ?_
  refine s1 (r_lda h11 (mm.b 1 rfl) rfl) ?_
  refine so (o_c1 rfl (hput _ (mm.c 2 rfl)) ?_)
  rintro _ w12 ⟨aB, cB, rfl, hc, hn2⟩
  have mm := mm.new hc hn2
  refine s1 (r_mvu rfl) ?_
  refine s1 (r_exts rfl rfl) ?_
  refine s1 (r_exti rfl rfl) ?_
  refine s1 (r_ass rfl) ?_
  refine s1 (r_asi rfl) ?_
  refine wn ?_
  have mm : Mem w No _ [hbI d z (st0 n), own 5 1 aB B.length cB (u8s B)] := mm.pk [0, 3] (by decide)
  refine c_sreg rfl ?_
  refine s1 (r_mvp h9) ?_
  refine s1 (r_mvi h2) ?_
  refine s1 (r_cv rfl (wi (by omega) (by omega))) ?_
  refine so (o_c2 rfl rfl (c_hbCut d z (st0 n) (k : Nat) _ (mm.h 0 rfl)) ?_)
  rintro _ w13 ⟨rfl, hm1⟩
  have mm := mm.lift1 0 rfl hm1
  refine wn ?_
  have hT1 := fun (v : Value) (w' : World) h1 h2 => c_hbTakeE d hn z hT0 (fun _ => okN) (by omega) v (Nat.zero_le _) w' h1 h2
  refine c_sreg rfl ?_
  refine s1 (r_mvp h9) ?_
  refine s1 (r_mvs rfl) ?_
  refine so (o_c2 rfl rfl (hT1 _ _ (mm.h 0 rfl) (Sl.own mm 1 rfl)) ?_)
  rintro _ w14 ⟨z1, a1, c1, hz1, rfl, hm1⟩
  have mm := mm.liftL 0 rfl hm1
  refine s1 (r_mvu rfl) ?_
  refine s1 (r_exti rfl rfl) ?_
  refine s1 (r_exts rfl rfl) ?_
  refine s1 (r_exti rfl rfl) ?_
  refine s1 (r_asi rfl) ?_
  refine s1 (r_ass rfl) ?_
  refine s1 (r_asi rfl) ?_
  refine wn ?_
  rw [← hz1] at h9
  obtain ⟨rs, t, hrt, hst, hsp⟩ := cut_split p k
  have hcl := cutR_len p
  have hlen : (putsR rs ++ t).length ≤ 100 := by rw [← hrt, List.length_take]; omega
  rw [hrt] at mm
  have mm : Mem w No _ [hbI d z1 ⟨false, po0, ⟨putsR rs ++ t, true, none⟩⟩, own 5 1 aB B.length cB (u8s B)] := mm.pk [0, 1] (by decide)
  have hS1 := fun (w' : World) h1 => c_hbSite (N := n) d z1 ⟨false, po0, ⟨putsR rs ++ t, true, none⟩⟩ (fun h => by cases h) w' h1
  rw [show hbSite ⟨false, po0, ⟨putsR rs ++ t, true, none⟩⟩ = hs0 from rfl] at hS1
  obtain ⟨H0, hH0⟩ : ∃ x, x = hs0 := ⟨_, rfl⟩
  rw [← hH0] at hS1
  have hHl : (hsC H0).length = 36 := by rw [hH0]; rfl
  refine c_sreg rfl ?_
  refine s1 (r_mvp h9) ?_
  refine so (o_c1 rfl (hS1 _ (mm.h 0 rfl)) ?_)
  rintro _ w15 ⟨rfl, hc⟩
  have mm := mm.frame hc
  refine so (o_al mm fun b16 w16 mm => ?_)
  refine ss (o_sta mm 2 rfl rfl rfl (ones_hs _) hHl (by show 0 + 36 ≤ (hsC hs0).length; decide) fun w17 mm => ?_)
  refine wn ?_
  have mm := mm.castL (congrArg (fun u => [hbI d z1 ⟨false, po0, ⟨putsR rs ++ t, true, none⟩⟩, own 5 1 aB B.length cB (u8s B), bk b16 u 34]) (spl_all (hsC hs0) (hsC H0) (by rw [hHl]; rfl)))
  have hT2 := fun (v : Value) (w' : World) h1 h2 => c_hbTakeE d hn z1 (hbTake_down (c := d) (st := ⟨false, po0, ⟨putsR rs ++ t, true, none⟩⟩) (b := B) rfl) (fun h => by cases h) (by omega) v (by show (putsR rs ++ t).length ≤ _; omega) w' h1 h2
  refine c_sreg rfl ?_
  refine s1 (r_mvp h9) ?_
  refine s1 (r_mvs rfl) ?_
  refine so (o_c2 rfl rfl (hT2 _ _ (mm.h 0 rfl) (Sl.own mm 1 rfl)) ?_)
  rintro _ w18 ⟨z2, a2, c2, hz2, rfl, hm1⟩
  have mm := mm.liftL 0 rfl hm1
  refine s1 (r_mvu rfl) ?_
  refine s1 (r_exti rfl rfl) ?_
  refine s1 (r_exts rfl rfl) ?_
  refine s1 (r_exti rfl rfl) ?_
  refine s1 (r_asi rfl) ?_
  refine s1 (r_ass rfl) ?_
  refine s1 (r_asi rfl) ?_
  refine wn ?_
  rw [← hz2] at h9
  have mm : Mem w No _ [hbI d z2 ⟨false, po0, ⟨putsR rs ++ t, true, none⟩⟩, bk b16 (hsC H0) 34] := mm.pk [0, 2] (by decide)
  have hrok : ∀ x ∈ rs, RecOk x ∧ x.es.length ≤ 1000 := fun x hx => by
    rcases hsp with ⟨h, _⟩ | ⟨h, _⟩
    · rw [h] at hx; cases hx
    · rw [h] at hx; rw [List.mem_singleton.1 hx]; exact ⟨cutR_ok p, by cases p <;> decide⟩
  have hst1 := fun (w' : World) h1 => c_hbStart d n hn n1 n5 hW1 hW4 z2 po0 rs t true none (fun x hx => (hrok x hx).1) (fun x hx => (hrok x hx).2) hst (by omega) w' h1
  have okR : PoOk n d.w (replay d.w n rs) := by
    have := replay_ok n1 n5 hW1 hW4 rs (fun x hx => (hrok x hx).1) rs.length (Nat.le_refl _)
    rwa [List.take_length] at this
  have hcs := cut_site n1 n5 hW1 hW4 p rs (by rcases hsp with ⟨h, _⟩ | ⟨h, _⟩ <;> simp [h])
  have hSw := site_w okR
  refine c_sreg rfl ?_
  refine s1 (r_mvp h9) ?_
  refine so (o_c1 rfl (hst1 _ (mm.h 0 rfl)) ?_)
  rintro _ w19 ⟨z3, hz3, rfl, hm1⟩
  have mm := mm.lift1 0 rfl hm1
  refine s1 (r_asi rfl) ?_
  refine wn ?_
  rw [← hz3] at h9
  generalize replay d.w n rs = R at *
  refine c_sreg rfl ?_
  refine s1 (r_mvp h9) ?_
  refine so (o_c1 rfl (c_hbStart1 d z3 ⟨true, R, ⟨putsR rs, false, none⟩⟩ rfl _ (mm.h 0 rfl)) ?_)
  rintro _ w20 ⟨rfl, hm1⟩
  have mm := mm.lift1 0 rfl hm1
  refine s1 (r_asi rfl) ?_
  refine wn ?_
  have hS2 := fun (w' : World) h1 => c_hbSite (N := n) d z3 ⟨true, R, ⟨putsR rs, false, none⟩⟩ (fun _ => okR) w' h1
  rw [show hbSite ⟨true, R, ⟨putsR rs, false, none⟩⟩ = poSite R from rfl] at hS2
  have hSl : (hsC (poSite R)).length = 36 := by rw [hsC_length, hSw.al]
  have hSu : (poSite R).up = true := siteTo_up R _
  generalize poSite R = S at *
  refine c_sreg rfl ?_
  refine s1 (r_mvp h9) ?_
  refine so (o_c1 rfl (hS2 _ (mm.h 0 rfl)) ?_)
  rintro _ w21 ⟨rfl, hc⟩
  have mm := mm.frame hc
  refine so (o_al mm fun b22 w22 mm => ?_)
  refine ss (o_sta mm 2 rfl rfl rfl (ones_hs _) hSl (by show 0 + 36 ≤ (hsC hs0).length; decide) fun w23 mm => ?_)
  refine wn ?_
  have mm := mm.castL (congrArg (fun u => [hbI d z3 ⟨true, R, ⟨putsR rs, false, none⟩⟩, bk b16 (hsC H0) 34, bk b22 u 34]) (spl_all (hsC hs0) (hsC S) (by rw [hSl]; rfl)))
  refine c_seq ?_
  refine c_sreg rfl ?_
  refine s1 (r_mvi rfl) ?_
  refine s1 (r_ne rfl rfl) ?_
  refine s1 (r_mvb rfl) ?_
  refine sF rfl rfl (fun h => r_mvs rfl) ?_
  refine sF rfl rfl (fun h => r_len (sel_t h :)) ?_
  refine sF rfl rfl (fun h => r_ne (sel_t h :) rfl) ?_
  refine s1 (r_or rfl rfl) ?_
  refine s1 (r_mvb rfl) ?_
  refine sF rfl rfl (fun h => r_mvi rfl) ?_
  refine sF rfl rfl (fun h => r_ne (sel_t h :) rfl) ?_
  refine s1 (r_or rfl rfl) ?_
  refine s1 (r_mvb rfl) ?_
  refine s1k rfl (show _ = Value.bool false from rfl) (r_lda rfl (mm.b 1 rfl) (by rw [hHl]; rfl)) ?_
  refine s1k rfl (show _ = Value.bool false from rfl) (r_bd bN rfl) ?_
  refine s1k rfl (show _ = Value.bool false from rfl) (r_nea hs_guard (hs_eq H0 hs0 (by rw [hH0]; exact hs0_w) hs0_w) (seg_agg (hsC H0) 36 hHl) rfl) ?_
  refine s1 (r_or (show _ = Value.bool false from rfl) rfl) ?_
  refine s1 (r_mvb rfl) ?_
  refine sF rfl rfl (fun h => r_mvi rfl) ?_
  refine sF rfl rfl (fun h => r_ne (sel_t h :) rfl) ?_
  refine s1 (r_or rfl rfl) ?_
  refine s1 (r_mvb rfl) ?_
  refine sF rfl rfl (fun h => r_mvi rfl) ?_
  refine sF rfl rfl (fun h => r_ne (sel_t h :) rfl) ?_
  refine s1 (r_or rfl rfl) ?_
  refine s1 (r_mvb rfl) ?_
  refine sF rfl rfl (fun h => r_mvi rfl) ?_
  refine sF rfl rfl (fun h => r_ne (sel_t h :) rfl) ?_
  refine s1 (r_or rfl rfl) ?_
  refine s1 (r_mvb rfl) ?_
  refine sF rfl rfl (fun h => r_fa rfl) ?_
  refine sF rfl rfl (fun h => r_ld (sel_t h :) (mm.b 2 rfl) rfl) ?_
  refine sF rfl rfl (fun h => r_not (sel_t h :)) ?_
  refine s1 (r_or rfl rfl) ?_
  refine wn ?_
  refine c_cond rfl (fun h => ?_) (fun h => (c_skip (t_n ?_)))
  · simp [hH0, hSu] at h
  clear h
  refine c_sreg rfl ?_
  refine s1 (r_lda rfl (mm.b 2 rfl) (by rw [hSl]; rfl)) ?_
  refine s1 (r_bd (bb rfl bN) rfl) ?_
  refine s1 (r_eqa hs_guard (hs_eq S hs1 hSw hs1_w) (seg_agg (hsC S) 36 hSl) rfl) ?_
  refine s1 (r_asb rfl) ?_
  refine wn ?_
  by_cases hx : S.len.c0 = 1
  · refine c_sreg rfl ?_
    refine s1 (r_fa rfl) ?_
    refine s1 (r_ixa rfl rfl (by omega) (by omega)) ?_
    refine s1 (r_ld rfl (mm.b 2 rfl) rfl) ?_
    refine s1 (r_eq rfl rfl) ?_
    refine s1 (r_mvb (congrArg Value.bool (decide_eq_true (p := S.len.c0 = 1) hx))) ?_
    refine s1n rfl rfl ?_
    refine s1n rfl rfl ?_
    refine s1n rfl rfl ?_
    refine s1n rfl rfl ?_
    refine s1n rfl rfl ?_
    refine s1 ((r_or (u := false) (show _ = Value.bool true from rfl) rfl)) ?_
    refine s1 (r_asb rfl) ?_
    refine wn ?_
    have hWW : (rs = [] → true = false) ∧ (rs = [cutR p] → true = true) := ⟨fun h1 => by have h2 := hcs.1 h1; rw [h2] at hx; exact absurd hx (by decide), fun _ => rfl⟩
    refine c_seq ?_
    refine c_sreg rfl ?_
    refine s1 (r_mvi h2) ?_
    refine s1 (r_ge rfl rfl) ?_
    refine wn ?_
    refine c_cond rfl (fun h => ?_) (fun h => (c_skip (t_n ?_)))
    · have h100 : 100 ≤ k := by simp at h; omega
      refine c_sreg rfl ?_
      refine s1 (r_mvb rfl) ?_
      refine s1 (r_asb rfl) ?_
      refine wn ?_
      refine c_ret (ret1 (v := .bool (true)) rfl rfl ⟨?_, mm.chg⟩)
      rcases hsp with ⟨_, h2⟩ | ⟨h1, _⟩
      · omega
      · rfl
    clear h
    refine c_seq ?_
    refine c_sreg rfl ?_
    refine s1 (r_mvi h2) ?_
    refine s1 (r_lt rfl rfl) ?_
    refine wn ?_
    refine c_cond rfl (fun h => ?_) (fun h => (c_skip (t_n ?_)))
    · have h5 : k < 5 := by simp at h; omega
      refine c_sreg rfl ?_
      refine s1 (r_mvb rfl) ?_
      refine s1 (r_asb rfl) ?_
      refine wn ?_
      refine c_ret (ret1 (v := .bool (decide (S = hs1))) rfl rfl ⟨?_, mm.chg⟩)
      rcases hsp with ⟨h1, _⟩ | ⟨_, h2⟩
      · simp [hcs.1 h1]
      · omega
    clear h
    refine c_sreg rfl ?_
    refine s1 (r_mvb rfl) ?_
    refine s1 (r_mvb rfl) ?_
    refine s1 (r_bneq Try.underlying4 rfl rfl) ?_
    refine s1 (r_asb rfl) ?_
    refine wn ?_
    refine c_ret (ret1 (v := .bool (!(decide (S = hs1) == true))) rfl rfl ⟨?_, mm.chg⟩)
    rcases hsp with ⟨h1, _⟩ | ⟨h1, _⟩
    · exact absurd (hWW.1 h1) (by decide)
    · rw [hWW.2 h1, decide_eq_false (hcs.2 h1).1]; rfl
  refine c_sreg rfl ?_
  refine s1 (r_fa rfl) ?_
  refine s1 (r_ixa rfl rfl (by omega) (by omega)) ?_
  refine s1 (r_ld rfl (mm.b 2 rfl) rfl) ?_
  refine s1 (r_eq rfl rfl) ?_
  refine s1 (r_mvb (congrArg Value.bool (decide_eq_false (p := S.len.c0 = 1) hx))) ?_
  refine s1k rfl rfl (r_fa rfl) ?_
  refine s1k rfl rfl (r_ixa rfl rfl (by omega) (by omega)) ?_
  refine s1k rfl rfl (r_lda rfl (mm.b 2 rfl) (by rw [hSl]; rfl)) ?_
  refine s1k rfl rfl (r_bd (bi rfl bN) rfl) ?_
  refine s1k rfl rfl (r_eqa clk_guard (clk_eq (S.acks.getD 0 clk0) clk7 (getD_w hSw.aw) clk7_w) (hs_pack S (r := 0) (s := 0) rfl (by rw [hSw.al]; decide) rfl) rfl) ?_
  refine s1 (r_or rfl rfl) ?_
  refine s1 (r_asb rfl) ?_
  refine wn ?_
  have hWW : (rs = [] → (false || decide (S.acks.getD 0 clk0 = clk7)) = false) ∧ (rs = [cutR p] → (false || decide (S.acks.getD 0 clk0 = clk7)) = true) := ⟨fun h1 => by rw [hcs.1 h1]; decide, fun h1 => by simpa using (hcs.2 h1).2.resolve_left hx⟩
  refine c_seq ?_
  refine c_sreg rfl ?_
  refine s1 (r_mvi h2) ?_
  refine s1 (r_ge rfl rfl) ?_
  refine wn ?_
  refine c_cond rfl (fun h => ?_) (fun h => (c_skip (t_n ?_)))
  · have h100 : 100 ≤ k := by simp at h; omega
    refine c_sreg rfl ?_
    refine s1 (r_mvb rfl) ?_
    refine s1 (r_asb rfl) ?_
    refine wn ?_
    refine c_ret (ret1 (v := .bool ((false || decide (S.acks.getD 0 clk0 = clk7)))) rfl rfl ⟨?_, mm.chg⟩)
    rcases hsp with ⟨_, h2⟩ | ⟨h1, _⟩
    · omega
    · rw [(hWW).2 h1]
  clear h
  refine c_seq ?_
  refine c_sreg rfl ?_
  refine s1 (r_mvi h2) ?_
  refine s1 (r_lt rfl rfl) ?_
  refine wn ?_
  refine c_cond rfl (fun h => ?_) (fun h => (c_skip (t_n ?_)))
  · have h5 : k < 5 := by simp at h; omega
    refine c_sreg rfl ?_
    refine s1 (r_mvb rfl) ?_
    refine s1 (r_asb rfl) ?_
    refine wn ?_
    refine c_ret (ret1 (v := .bool (decide (S = hs1))) rfl rfl ⟨?_, mm.chg⟩)
    rcases hsp with ⟨h1, _⟩ | ⟨_, h2⟩
    · simp [hcs.1 h1]
    · omega
  clear h
  refine c_sreg rfl ?_
  refine s1 (r_mvb rfl) ?_
  refine s1 (r_mvb rfl) ?_
  refine s1 (r_bneq Try.underlying4 rfl rfl) ?_
  refine s1 (r_asb rfl) ?_
  refine wn ?_
  refine c_ret (ret1 (v := .bool (!(decide (S = hs1) == (false || decide (S.acks.getD 0 clk0 = clk7))))) rfl rfl ⟨?_, mm.chg⟩)
  rcases hsp with ⟨h1, _⟩ | ⟨h1, _⟩
  · rw [hWW.1 h1, decide_eq_true (hcs.1 h1)]; rfl
  · rw [hWW.2 h1, decide_eq_false (hcs.2 h1).1]; rfl
end Go.Proofs.Ytbcpabfemejlgaa
/- A config, a bool, two bytes that are handed in, opened. -/
namespace Go.Proofs.Ytbcpabfemejlgaa
open Go.ChangeShapes Go.WideShapes Go.ChangeAt Go.RowKit
open K
set_option maxRecDepth 100000
section
variable {H : Type} {enc : TypeId × Value → H} {w : World} {base : Nat} {sp : Nat → Bool} {held : Bool}
theorem cellsCf : Try.prog.cellsOf 23 = 6 := by kernel_rfl
theorem list6 {α : Type} {l : List α} (h : l.length = 6) : ∃ a0 a1 a2 a3 a4 a5, l = [a0, a1, a2, a3, a4, a5] := by
  match l, h with
  | [a0, a1, a2, a3, a4, a5], _ => exact ⟨a0, a1, a2, a3, a4, a5, rfl⟩
theorem trod_cfg {n : Nat} {cs : List Value} {y : DataW H × List MemPlace} (h : DataW.trod enc Try.prog w base sp held n 23 cs = some y) : ∃ c : Cf, cs = cfC c := by
  obtain ⟨xs, m, _, hx, hl, hlen, hf⟩ := DataW.trod_struct Try.underlying23 h
  obtain ⟨y0, y1, y2, y3, y4, y5, rfl⟩ := list6 hlen
  rw [cellsCf] at hl
  obtain ⟨c0, c1, c2, c3, c4, c5, rfl⟩ := list6 hl
  have g0 : DataW.trod enc Try.prog w base sp held m 3 (List.take (Try.prog.cellsOf 3) _) = _ := hf 0 _ rfl
  have g1 : DataW.trod enc Try.prog w base sp held m 3 (List.take (Try.prog.cellsOf 3) _) = _ := hf 1 _ rfl
  have g2 : DataW.trod enc Try.prog w base sp held m 3 (List.take (Try.prog.cellsOf 3) _) = _ := hf 2 _ rfl
  have g3 : DataW.trod enc Try.prog w base sp held m 3 (List.take (Try.prog.cellsOf 3) _) = _ := hf 3 _ rfl
  have g4 : DataW.trod enc Try.prog w base sp held m 3 (List.take (Try.prog.cellsOf 3) _) = _ := hf 4 _ rfl
  have g5 : DataW.trod enc Try.prog w base sp held m 3 (List.take (Try.prog.cellsOf 3) _) = _ := hf 5 _ rfl
  rw [cells3] at g0 g1 g2 g3 g4 g5
  obtain ⟨n0, e0, -, -⟩ := DataW.trod_int Try.underlying3 g0
  obtain ⟨n1, e1, -, -⟩ := DataW.trod_int Try.underlying3 g1
  obtain ⟨n2, e2, -, -⟩ := DataW.trod_int Try.underlying3 g2
  obtain ⟨n3, e3, -, -⟩ := DataW.trod_int Try.underlying3 g3
  obtain ⟨n4, e4, -, -⟩ := DataW.trod_int Try.underlying3 g4
  obtain ⟨n5, e5, -, -⟩ := DataW.trod_int Try.underlying3 g5
  injection e0 with e0; injection e1 with e1; injection e2 with e2; injection e3 with e3; injection e4 with e4; injection e5 with e5
  subst e0; subst e1; subst e2; subst e3; subst e4; subst e5
  exact ⟨⟨n0, n1, n2, n3, n4, n5⟩, rfl⟩
theorem open_cfg {b0 : Nat} {v : Value} {d : DataW H} {p : List MemPlace} (hv : Value.okWide Try.prog w .any b0 23 v) (h : DataW.Trod enc Try.prog w base sp held 23 v d p) : ∃ c : Cf, v = .agg (cfC c).toArray := by
  obtain ⟨⟨l⟩, rfl, hsz⟩ := okWide_struct Try.underlying23 hv
  obtain ⟨fuel, hf⟩ := h
  obtain ⟨c, hc⟩ := trod_cfg (show DataW.trod enc Try.prog w base sp held fuel 23 l = some (d, p) from hf)
  subst hc
  exact ⟨c, rfl⟩
theorem ok_arrayb {P : Program} {r : Reach} {t n e : TypeId} {b0 : Nat} {v : Value} (ht : P.underlying t = some (.array n e)) (h : Value.okWide P w r b0 t v) : ∃ cs, v = .agg cs := by
  simp only [Value.okWide, ht] at h
  obtain ⟨cs, h1, _⟩ := h
  exact ⟨cs, h1⟩
theorem cellsU8 : Try.prog.cellsOf 5 = 1 := by kernel_rfl
theorem cellsB2 : Try.prog.cellsOf 36 = 2 := by kernel_rfl
theorem list2b {α : Type} {l : List α} (h : l.length = 2) : ∃ a0 a1, l = [a0, a1] := by
  match l, h with
  | [a0, a1], _ => exact ⟨a0, a1, rfl⟩
theorem u8_wf {n : Int} (h : (Lit.int .u8 n).wf = true) : 0 ≤ n ∧ n ≤ 255 := by
  simpa [Lit.wf, IntKind.min, IntKind.max, IntKind.signed, IntKind.bits] using h
def arrb (x y : Nat) : List Value := [.int .u8 (x : Nat), .int .u8 (y : Nat)]
theorem open_arrb {b0 : Nat} {v : Value} {d : DataW H} {p : List MemPlace} (hv : Value.okWide Try.prog w .any b0 36 v) (h : DataW.Trod enc Try.prog w base sp held 36 v d p) :
    ∃ x0 x1 : Nat, v = .agg (arrb x0 x1).toArray ∧ x0 ≤ 255 ∧ x1 ≤ 255 := by
  obtain ⟨⟨l⟩, rfl⟩ := ok_arrayb Try.underlying36 hv
  obtain ⟨fuel, hf⟩ := h
  obtain ⟨xs, m, _, hx, hl, hlen, hf⟩ := DataW.trod_array Try.underlying36 (show DataW.trod enc Try.prog w base sp held fuel 36 l = some (d, p) from hf)
  obtain ⟨y0, y1, rfl⟩ := list2b hlen
  rw [cellsB2] at hl
  obtain ⟨c0, c1, rfl⟩ := list2b hl
  simp only [cellsU8] at hf
  obtain ⟨n0, e0, rfl, w0⟩ := DataW.trod_int Try.underlying5 (hf 0 (by decide))
  obtain ⟨n1, e1, rfl, w1⟩ := DataW.trod_int Try.underlying5 (hf 1 (by decide))
  injection e0 with e0; injection e1 with e1
  subst e0; subst e1
  have h0 := u8_wf w0
  have h1 := u8_wf w1
  obtain ⟨x0, rfl⟩ := Int.eq_ofNat_of_zero_le h0.1
  obtain ⟨x1, rfl⟩ := Int.eq_ofNat_of_zero_le h1.1
  exact ⟨x0, x1, rfl, by omega, by omega⟩
theorem open_boolv {b0 : Nat} {v : Value} (hv : Value.okWide Try.prog w .any b0 4 v) : ∃ b, v = .bool b := okWide_bool Try.underlying4 hv
end
end Go.Proofs.Ytbcpabfemejlgaa
