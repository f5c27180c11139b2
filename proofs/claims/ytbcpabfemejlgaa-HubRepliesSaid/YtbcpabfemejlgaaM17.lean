/- The hub: plain, its layout; Crash, Cut, Site, write: walks. -/
import Derived.Test.YtbcpabfemejlgaaM14
import Derived.Test.YtbcpabfemejlgaaM15
import Derived.Test.YtbcpabfemejlgaaM16
import Derived.Test.YtbcpabfemejlgaaM8
namespace Go.Proofs.Ytbcpabfemejlgaa
open K
set_option maxRecDepth 100000
set_option maxHeartbeats 4000000

structure Hb where
  up : Bool
  po : Po
  d : Dk
def po0 : Po := ⟨[], []⟩
def hbCrash (h : Hb) : Hb := ⟨false, po0, ⟨h.d.b, true, none⟩⟩
def hbWrite (h : Hb) (x : Rec) : Hb × Int :=
  if recMay x = false then (h, 1)
  else if (dkWrite h.d (putR x)).2 ≠ 0 then (hbCrash { h with d := (dkWrite h.d (putR x)).1 }, 18)
  else ({ h with d := (dkWrite h.d (putR x)).1 }, 0)
def hbSite (h : Hb) : HS := bif h.up then poSite h.po else hs0
structure HL where
  q : Nat
  y : PL
  dq : Nat
  da : Option Addr
  dc : Nat
  dm : Nat
def hbB (z : HL) (c : Cf) (up : Bool) : List Value := (bif up then .pointer (some ⟨z.y.q, 0, none⟩) else .pointer none) :: .bool up :: .int .i64 c.n :: .int .i64 c.w :: .int .i64 c.q :: .int .i64 c.h :: .int .i64 c.l :: .int .i64 c.p :: [.pointer (some ⟨z.dq, 0, none⟩)]
def hbIs (c : Cf) (z : HL) (h : Hb) : List It := bk z.q (hbB z c h.up) 64 :: dkI z.dq z.da z.dc z.dm h.d :: (bif h.up then [poI c.w z.y h.po] else [])
def hbI (c : Cf) (z : HL) (h : Hb) : It := listI (hbIs c z h)

theorem c_hbCut (c : Cf) (z : HL) (st : Hb) (n : Int) (w : World) (hI : (hbI c z st).holds w) : Cl Try.prog 16 #[.pointer (some ⟨z.q, 0, none⟩), .int .i64 n] w (fun r w' => r = .tuple #[] ∧ Mem w (hbI c z st).foot w' [hbI c z { st with d := { st.d with cut := some n } }]) := by
  have mm : Mem w (hbI c z st).foot w (hbIs c z st) := (Mem.one hI).open
  generalize hF0 : (hbI c z st).foot = F0 at mm
  refine f_enter (args := [_, _]) Try.func16 rfl rfl ?_
  refine c_region rfl ?_
  refine s1 (r_mvp rfl) ?_
  refine s1 (r_nil rfl) ?_
  refine s1 (r_fa rfl) ?_
  refine s1 (r_ld rfl (mm.b 0 rfl) rfl) ?_
  refine s1 (r_mvi rfl) ?_
  refine so (o_c2 rfl rfl (c_dkCut n (mm.h 1 rfl)) ?_)
  rintro _ w2 ⟨rfl, hm⟩
  have mm := mm.lift1 1 rfl hm
  refine wn (body_n ?_)
  have mm : Mem w F0 _ (hbIs c z { st with d := { st.d with cut := some n } }) := mm
  exact ret0 rfl ⟨rfl, mm.close⟩
theorem c_hbCrash (c : Cf) (z : HL) (st : Hb) (w : World) (hI : (hbI c z st).holds w) : Cl Try.prog 72 #[.pointer (some ⟨z.q, 0, none⟩)] w (fun r w' => r = .tuple #[] ∧ Mem w (hbI c z st).foot w' [hbI c z (hbCrash st)]) := by
  have mm : Mem w (hbI c z st).foot w (hbIs c z st) := (Mem.one hI).open
  generalize hF0 : (hbI c z st).foot = F0 at mm
  refine f_enter (args := [_]) Try.func72 rfl rfl ?_
  refine c_sreg rfl ?_
  refine s1 (r_mvp rfl) ?_
  refine s1 (r_nil rfl) ?_
  refine s1 (r_fa rfl) ?_
  refine s1 (r_ld rfl (mm.b 0 rfl) rfl) ?_
  refine so (o_c1 rfl (c_dkCrash (mm.h 1 rfl)) ?_)
  rintro _ w2 ⟨rfl, hm⟩
  have mm := mm.lift1 1 rfl hm
  refine wn ?_
  have mm : Mem w F0 _ [bk z.q (hbB z c st.up) 64, dkI z.dq z.da z.dc z.dm ⟨st.d.b, true, none⟩] := mm.pk [0, 1] (by decide)
  refine c_region rfl ?_
  refine s1 (r_mvp rfl) ?_
  refine s1 (r_bd bN rfl) ?_
  refine s1 (r_nil rfl) ?_
  refine s1 (r_fa rfl) ?_
  refine ss (o_sta mm 0 rfl rfl rfl rfl rfl (Nat.le_of_ble_eq_true rfl) fun w3 mm => ?_)
  refine wn (body_n ?_)
  have mm : Mem w F0 _ (hbIs c z (hbCrash st)) := mm
  exact ret0 rfl ⟨rfl, mm.close⟩
theorem c_hbSite {N : Nat} (c : Cf) (z : HL) (st : Hb) (ok : st.up = true → PoOk N c.w st.po) (w : World) (hI : (hbI c z st).holds w) : Cl Try.prog 9 #[.pointer (some ⟨z.q, 0, none⟩)] w (fun r w' => r = .agg (hsC (hbSite st)).toArray ∧ Chg No w w') := by
  have m0 : Mem w (hbI c z st).foot w (hbIs c z st) := (Mem.one hI).open
  have hb := m0.b 0 rfl
  have hlt := (Array.getElem?_eq_some_iff.1 hb).1
  have hB : ∀ {w' : World} {L : List It}, Mem w No w' L → w'.heap[z.q]? = some (.cells (hbB z c st.up).toArray 64 (0, 0)) := fun m => (m.chg.same z.q hlt (fun h => h)).trans hb
  refine f_enter (args := [_]) Try.func9 rfl rfl ?_
  have mm := Mem.nil No w
  refine c_sreg rfl ?_
  refine so (o_al mm fun b2 w2 mm => ?_)
  refine wn ?_
  have mm : Mem w No _ [bk b2 (hsC hs0) 34] := mm
  refine c_seq ?_
  refine c_sreg rfl ?_
  refine s1 (r_mvp rfl) ?_
  refine s1 (r_nil rfl) ?_
  refine s1 (r_fa rfl) ?_
  refine s1 (r_fa rfl) ?_
  refine s1 (r_ld rfl ((hB) mm) rfl) ?_
  refine s1 (r_not rfl) ?_
  refine wn ?_
  refine c_cond rfl (fun h => ?_) (fun h => (c_skip (t_n ?_)))
  · have hu : st.up = false := by simpa using h
    refine c_sreg rfl ?_
    refine s1 (r_bd bN rfl) ?_
    refine ss (o_sta mm 0 rfl rfl rfl rfl rfl (Nat.le_of_ble_eq_true rfl) fun w3 mm => ?_)
    refine wn ?_
    have e1 : hbSite st = hs0 := by unfold hbSite; rw [hu]; rfl
    rw [e1]
    exact c_ret (retc rfl rfl (mm.b 0 rfl) rfl ⟨rfl, mm.chg⟩)
  have hu : st.up = true := by simpa using h
  clear h
  obtain ⟨up, po, d⟩ := st
  have hu : up = true := hu
  subst hu
  have hR : PoR c.w z.y po w := poR (m0.h 2 rfl)
  refine c_sreg rfl ?_
  refine s1 (r_mvp rfl) ?_
  refine s1 (r_nil rfl) ?_
  refine s1 (r_fa rfl) ?_
  refine s1 (r_fa rfl) ?_
  refine s1 (r_ld rfl ((hB) mm) rfl) ?_
  refine so (o_c1 rfl (c_poSite z.y po (ok rfl) _ (hR.at mm)) ?_)
  rintro _ w4 ⟨rfl, hc⟩
  have mm := mm.frame hc
  refine ss (o_sta mm 0 rfl rfl rfl (ones_hs _) (by rw [hsC_length]; unfold poSite; rw [siteTo_len]) (by show 0 + 36 ≤ (hsC hs0).length; decide) fun w5 mm => ?_)
  refine wn ?_
  have mm := mm.castL (congrArg (fun z => [bk b2 z 34]) (spl_all (hsC hs0) (hsC (poSite po)) (by rw [hsC_length (poSite po)]; unfold poSite; rw [siteTo_len]; rfl)))
  exact c_ret (retc rfl rfl (mm.b 0 rfl) (by rw [hsC_length]; unfold poSite; rw [siteTo_len]) ⟨rfl, mm.chg⟩)
theorem c_hbWrite (c : Cf) (z : HL) (po : Po) (d : Dk) (x : Rec) (ok : RecOk x) {a : Option Addr} {cap : Nat} (hl : d.b.length ≤ 100000000) (w : World) (hI : (hbI c z ⟨true, po, d⟩).holds w) (HS : Stab (hbI c z ⟨true, po, d⟩) w (fun w' => Cells w' a (evsC x.es))) :
    Cl Try.prog 47 #[.pointer (some ⟨z.q, 0, none⟩), .agg (recV x a cap).toArray] w
      (fun r w' => ∃ da' dc', r = .int .i64 (hbWrite ⟨true, po, d⟩ x).2 ∧ Mem w (hbI c z ⟨true, po, d⟩).foot w' [hbI c { z with da := da', dc := dc' } (hbWrite ⟨true, po, d⟩ x).1]) := by
  have mm : Mem w (hbI c z ⟨true, po, d⟩).foot w [bk z.q (hbB z c true) 64, dkI z.dq z.da z.dc z.dm d, poI c.w z.y po] := (Mem.one hI).open
  have HS : ∀ w', Chg (hbI c z ⟨true, po, d⟩).foot w w' → Cells w' a (evsC x.es) := HS
  generalize hF0 : (hbI c z ⟨true, po, d⟩).foot = F0 at mm HS
  have hm := recMay_of ok
  have hpl := putR_le ok
  have hrp : recPut x = putR x := by unfold recPut; rw [hm]; rfl
  have hw : ClkW x.c := clk_ok_w ok.c
  have hput := fun (w' : World) (H' : Cells w' a (evsC x.es)) => c_rPut x (cap := cap) w' H' hw
  rw [hrp, hm] at hput
  have hwr : hbWrite ⟨true, po, d⟩ x = if (dkWrite d (putR x)).2 ≠ 0 then (hbCrash ⟨true, po, (dkWrite d (putR x)).1⟩, 18) else (⟨true, po, (dkWrite d (putR x)).1⟩, 0) := by
    unfold hbWrite
    rw [if_neg (by rw [hm]; decide)]
  rw [hwr]
  clear hwr hrp
  refine f_enter (args := [_, _]) Try.func47 rfl rfl ?_
  refine c_sreg rfl ?_
  refine so (o_bxa mm rfl fun b2 w2 mm => ?_)
  refine s1 (r_asi rfl) ?_
  refine wn ?_
  refine c_sreg rfl ?_
  refine s1 (r_lda rfl (mm.b 3 rfl) rfl) ?_
  refine so (o_c1 rfl (hput _ (HS _ mm.chg)) ?_)
  rintro _ w3 ⟨a3, c3, rfl, hc, hn⟩
  have mm := mm.new hc hn
  refine s1 (r_mvu rfl) ?_
  refine s1 (r_exts rfl rfl) ?_
  refine s1 (r_exti rfl rfl) ?_
  refine s1 (r_ass rfl) ?_
  refine s1 (r_asi rfl) ?_
  refine wn ?_
  refine c_seq ?_
  refine c_sreg rfl ?_
  refine s1 (r_mvi rfl) ?_
  refine s1 (r_ne rfl rfl) ?_
  refine wn ?_
  refine c_cond rfl (fun h => ?_) (fun h => (c_skip (t_n ?_)))
  · simp at h
  clear h
  have hdw := fun (w' : World) (h1 : (dkI z.dq z.da z.dc z.dm d).holds w') (h2 : Stab (dkI z.dq z.da z.dc z.dm d) w' (fun w'' => Cells w'' a3 (u8s (putR x)))) (h3 : (putR x).length ≤ c3) => c_dkWrite (putR x) (by omega) (by omega) a3 c3 h3 h1 h2
  rcases hq : dkWrite d (putR x) with ⟨d1, cd⟩
  rw [hq] at hdw
  have hcc := own_le (mm.o 4 rfl)
  refine c_seq ?_
  refine c_sreg rfl ?_
  refine s1 (r_mvp rfl) ?_
  refine s1 (r_nil rfl) ?_
  refine s1 (r_fa rfl) ?_
  refine s1 (r_ld rfl (mm.b 0 rfl) rfl) ?_
  refine s1 (r_mvs rfl) ?_
  refine so (o_c2 rfl rfl (hdw _ (mm.h 1 rfl) (mm.keepO (k := 1) (j := 4) rfl rfl (by decide)) hcc) ?_)
  rintro _ w4 ⟨a', c', rfl, hm'⟩
  have mm := mm.lift1 1 rfl hm'
  refine s1 (r_ne rfl rfl) ?_
  refine wn ?_
  have mm : Mem w F0 _ [bk z.q (hbB z c true) 64, dkI z.dq a' c' z.dm d1, poI c.w z.y po] := mm.pk [0, 1, 2] (by decide)
  have mm : Mem w F0 _ [hbI c { z with da := a', dc := c' } ⟨true, po, d1⟩] := Mem.close (A := hbIs c { z with da := a', dc := c' } ⟨true, po, d1⟩) mm
  refine c_cond rfl (fun h => ?_) (fun h => (c_skip (t_n ?_)))
  · have hcd : cd ≠ 0 := by simpa using h
    rw [if_pos hcd]
    refine c_sreg rfl ?_
    refine s1 (r_mvp rfl) ?_
    refine so (o_c1 rfl (c_hbCrash c { z with da := a', dc := c' } ⟨true, po, d1⟩ _ (mm.h 0 rfl)) ?_)
    rintro _ w5 ⟨rfl, hm'⟩
    have mm := mm.lift1 0 rfl hm'
    refine wn ?_
    refine c_sreg rfl ?_
    refine s1 (r_asi rfl) ?_
    refine wn ?_
    exact c_ret (ret1 rfl rfl ⟨a', c', rfl, mm⟩)
  have hcd : cd = 0 := by simpa using h
  rw [if_neg (fun h => h hcd)]
  refine c_sreg rfl ?_
  refine s1 (r_asi rfl) ?_
  refine wn ?_
  exact c_ret (ret1 rfl rfl ⟨a', c', rfl, mm⟩)
end Go.Proofs.Ytbcpabfemejlgaa
/- hub.Hub's reply: plain, and the walk. -/
namespace Go.Proofs.Ytbcpabfemejlgaa
open K
set_option maxRecDepth 100000
set_option maxHeartbeats 4000000

def hbReply (c : Cf) (h : Hb) (f : Rec) : Hb × Rec × Int :=
  if f.kind = 1 then
    if (poPush c.w h.po f.r f.es).2.2 = 0 ∧ (poSite h.po).len.get f.r.toNat < (poPush c.w h.po f.r f.es).2.1 then
      ((hbWrite { h with po := (poPush c.w h.po f.r f.es).1 } ⟨5, f.r, 0, clk0, f.es⟩).1, ⟨2, 0, (poPush c.w h.po f.r f.es).2.1, clk0, []⟩, (hbWrite { h with po := (poPush c.w h.po f.r f.es).1 } ⟨5, f.r, 0, clk0, f.es⟩).2)
    else ({ h with po := (poPush c.w h.po f.r f.es).1 }, ⟨2, 0, (poPush c.w h.po f.r f.es).2.1, clk0, []⟩, (poPush c.w h.po f.r f.es).2.2)
  else if f.kind = 3 then (h, ⟨4, 0, 0, clk0, (poFetch h.po f.r f.c).1⟩, (poFetch h.po f.r f.c).2)
  else if f.kind = 5 then
    if (poAck h.po f.r f.c).2 = 0 ∧ (poAck h.po f.r f.c).1.ack f.r.toNat ≠ h.po.ack f.r.toNat then
      ((hbWrite { h with po := (poAck h.po f.r f.c).1 } ⟨6, f.r, 0, f.c, []⟩).1, rec0, (hbWrite { h with po := (poAck h.po f.r f.c).1 } ⟨6, f.r, 0, f.c, []⟩).2)
    else ({ h with po := (poAck h.po f.r f.c).1 }, rec0, (poAck h.po f.r f.c).2)
  else (h, rec0, 23)

theorem hs_nlen (x : HS) (i : Nat) (hi : i < 5) : nth (hsC x) (0 + 6 + ((i : Nat) : Int).toNat * 1) = some (.int .i64 (x.len.get i)) := by
  match i, hi with
  | 0, _ => rfl | 1, _ => rfl | 2, _ => rfl | 3, _ => rfl | 4, _ => rfl
theorem hs_segacks (x : HS) (h : x.acks.length = 5) : seg (hsC x) 11 25 = acksC x.acks := by
  have e : hsC x = (Value.bool x.up :: (clkC x.base ++ clkC x.len)) ++ acksC x.acks := rfl
  have hA : (Value.bool x.up :: (clkC x.base ++ clkC x.len)).length = 11 := rfl
  unfold seg
  rw [e, ← hA, List.drop_left, List.take_of_length_le (by rw [acksC_length, h]; decide)]
theorem hs_segack (x : HS) (i : Nat) (hi : i < x.acks.length) : seg (hsC x) (0 + 11 + ((i : Nat) : Int).toNat * 5) 5 = clkC (x.acks.getD i clk0) := by
  have e : hsC x = (Value.bool x.up :: (clkC x.base ++ clkC x.len)) ++ acksC x.acks := rfl
  have hA : (Value.bool x.up :: (clkC x.base ++ clkC x.len)).length = 11 := rfl
  rw [← acks_seg0 x.acks i hi]
  unfold seg
  have e2 : 0 + 11 + ((i : Nat) : Int).toNat * 5 = (Value.bool x.up :: (clkC x.base ++ clkC x.len)).length + i * 5 := by rw [hA]; show 0 + 11 + i * 5 = _; omega
  rw [e2, e, ← List.drop_drop, List.drop_left]
theorem site_get (p : Po) (n : Nat) (hn : n ≤ 5) : ∀ i, i ≤ n → ∀ j, j < 5 → (siteTo p i).base.get j = (if j < i then (p.sh j).base else 0) ∧ (siteTo p i).len.get j = (if j < i then (p.sh j).len else 0) ∧ (siteTo p i).acks.getD j clk0 = (if j < i then p.ack j else clk0)
  | 0, _, j, hj => by
    refine ⟨by rw [if_neg (by omega)]; exact clk0_in j, by rw [if_neg (by omega)]; exact clk0_in j, ?_⟩
    rw [if_neg (by omega)]
    match j, hj with
    | 0, _ => rfl | 1, _ => rfl | 2, _ => rfl | 3, _ => rfl | 4, _ => rfl
  | i + 1, hi, j, hj => by
    obtain ⟨h1, h2, h3⟩ := site_get p n hn i (by omega) j hj
    have hl := siteTo_len p i
    refine ⟨?_, ?_, ?_⟩
    · show ((siteTo p i).base.set i (p.sh i).base).get j = _
      rw [Clk.get_set _ _ _ (by omega) hj, h1]
      by_cases h : i = j
      · subst h; rw [if_pos rfl, if_pos (by omega)]
      · rw [if_neg h]
        by_cases h4 : j < i
        · rw [if_pos h4, if_pos (by omega)]
        · rw [if_neg h4, if_neg (by omega)]
    · show ((siteTo p i).len.set i (p.sh i).len).get j = _
      rw [Clk.get_set _ _ _ (by omega) hj, h2]
      by_cases h : i = j
      · subst h; rw [if_pos rfl, if_pos (by omega)]
      · rw [if_neg h]
        by_cases h4 : j < i
        · rw [if_pos h4, if_pos (by omega)]
        · rw [if_neg h4, if_neg (by omega)]
    · show (setN (siteTo p i).acks i (p.ack i)).getD j clk0 = _
      rw [getD_setN, h3, hl]
      by_cases h : i = j
      · subst h; rw [if_pos ⟨rfl, hj⟩, if_pos (by omega)]
      · rw [if_neg (by omega)]
        by_cases h4 : j < i
        · rw [if_pos h4, if_pos (by omega)]
        · rw [if_neg h4, if_neg (by omega)]
theorem evOk_n {es : List Ev} (h : ∀ y ∈ es, evMay y = 0) : ∀ y ∈ es, 1 ≤ y.n ∧ y.n ≤ 1048576 := fun y hy => ⟨(evMay_ok (h y hy)).n1, (evMay_ok (h y hy)).n2⟩
theorem hs_pack (x : HS) {r : Int} {s : Nat} {c : Clk} (hr : r = s) (hs : s < x.acks.length) (hc : x.acks.getD s clk0 = c) : Value.agg (seg (hsC x) (0 + 11 + r.toNat * 5) 5).toArray = Value.agg (clkC c).toArray := by
  subst hr; rw [hs_segack x s hs, hc]
theorem hs_back (x : HS) {r : Int} {s : Nat} (hr : r = s) (hs : s < x.acks.length) : Nat.ble (0 + 11 + r.toNat * 5 + 5) (hsC x).length = true := by
  subst hr; rw [hsC_length]; apply Nat.ble_eq_true_of_le; show 0 + 11 + s * 5 + 5 ≤ _; omega
theorem acks_pack (l : List Clk) {r : Int} {s : Nat} {c : Clk} (hr : r = s) (hs : s < l.length) (hc : l.getD s clk0 = c) : seg (acksC l) (r.toNat * 5) 5 = clkC c := by
  subst hr; rw [acks_seg l s hs, hc]
theorem recOk5 {r : Int} {l : List Ev} (h0 : 0 ≤ r) (h5 : r < 5) (hl : l.length ≤ 4096) (he : ∀ y ∈ l, evMay y = 0) : RecOk ⟨5, r, 0, clk0, l⟩ :=
  ⟨rfl, h0, h5, Int.le_refl 0, (by decide : (0 : Int) ≤ 1048576), Or.inr rfl, Or.inr rfl, Or.inl rfl, Or.inl (by decide : (5 : Int) ≠ 1), hl, fun i _ => by show 0 ≤ clk0.get i ∧ clk0.get i ≤ _; rw [clk0_in]; decide, he⟩
theorem recOk6 {r : Int} {c : Clk} (h0 : 0 ≤ r) (h5 : r < 5) (hc : ∀ i, i < 5 → 0 ≤ c.get i ∧ c.get i ≤ 1048576) : RecOk ⟨6, r, 0, c, []⟩ :=
  ⟨rfl, h0, h5, Int.le_refl 0, (by decide : (0 : Int) ≤ 1048576), Or.inr rfl, Or.inl rfl, Or.inr rfl, Or.inl (by decide : (6 : Int) ≠ 1), Nat.zero_le _, hc, fun y hy => by cases hy⟩
theorem c_hbReply {N : Nat} (c : Cf) (z : HL) (po : Po) (d : Dk) (okP : PoOk N c.w po) (f : Rec) (okF : FrOk f) (hfr : f.r < N) (a : Option Addr) (cap : Nat) (hcap : f.es.length ≤ cap) (hl : d.b.length ≤ 100000000) (w : World) (hI : (hbI c z ⟨true, po, d⟩).holds w) (HS : Stab (hbI c z ⟨true, po, d⟩) w (fun w' => Cells w' a (evsC f.es))) :
    Cl Try.prog 27 #[.pointer (some ⟨z.q, 0, none⟩), .agg (recV f a cap).toArray] w
      (fun r w' => ∃ z' a' c', z'.q = z.q ∧ r = .tuple #[.agg (recV (hbReply c ⟨true, po, d⟩ f).2.1 a' c').toArray, .int .i64 (hbReply c ⟨true, po, d⟩ f).2.2] ∧ Mem w (hbI c z ⟨true, po, d⟩).foot w' [hbI c z' (hbReply c ⟨true, po, d⟩ f).1, own 67 12 a' (hbReply c ⟨true, po, d⟩ f).2.1.es.length c' (evsC (hbReply c ⟨true, po, d⟩ f).2.1.es)]) := by
  have mm : Mem w (hbI c z ⟨true, po, d⟩).foot w [bk z.q (hbB z c true) 64, dkI z.dq z.da z.dc z.dm d, poI c.w z.y po] := (Mem.one hI).open
  have HS : ∀ w', Chg (hbI c z ⟨true, po, d⟩).foot w w' → Cells w' a (evsC f.es) := HS
  generalize hF0 : (hbI c z ⟨true, po, d⟩).foot = F0 at mm HS
  have hr0 := okF.r0
  have n5 := okP.n5
  obtain ⟨s, hs⟩ := Int.eq_ofNat_of_zero_le hr0
  have hsN : s < N := by omega
  have hsl := siteTo_len po po.shs.length
  have hsg := site_get po N n5 N (Nat.le_refl _) s (by omega)
  rw [if_pos hsN, if_pos hsN, if_pos hsN] at hsg
  have hpo : poSite po = siteTo po N := by unfold poSite; rw [okP.shs]
  refine f_enter (args := [_, _]) Try.func27 rfl rfl ?_
  refine c_sreg rfl ?_
  refine so (o_bxa mm rfl fun b2 w2 mm => ?_)
  refine so (o_al mm fun b3 w3 mm => ?_)
  refine s1 (r_asi rfl) ?_
  refine wn ?_
  refine c_sreg rfl ?_
  refine s1 (r_mvp rfl) ?_
  refine s1 (r_nil rfl) ?_
  refine s1 (r_fa rfl) ?_
  refine s1 (r_fa rfl) ?_
  refine s1 (r_ld rfl (mm.b 0 rfl) rfl) ?_
  refine so (o_c1 rfl (c_poSite z.y po okP _ (poR (mm.h 2 rfl))) ?_)
  rintro _ w4 ⟨rfl, hc⟩
  have mm := mm.frame hc
  refine so (o_al mm fun b5 w5 mm => ?_)
  refine ss (o_sta mm 5 rfl rfl rfl (ones_hs _) (by rw [hsC_length]; unfold poSite; rw [hsl]) (by show 0 + 36 ≤ (hsC hs0).length; decide) fun w6 mm => ?_)
  refine wn ?_
  have mm := mm.castL (congrArg (fun u => [bk z.q (hbB z c true) 64, dkI z.dq z.da z.dc z.dm d, poI c.w z.y po, bk b2 (recV f a cap) 40, bk b3 (recV rec0 none 0) 40, bk b5 u 34]) (spl_all (hsC hs0) (hsC (poSite po)) (by rw [hsC_length (poSite po)]; unfold poSite; rw [hsl]; rfl)))
  refine c_seq ?_
  refine c_sreg rfl ?_
  refine s1 (r_fa rfl) ?_
  refine s1 (r_ld rfl (mm.b 3 rfl) rfl) ?_
  refine wn ?_
  refine c_block ?_
  have hs' : f.r.toNat = s := by omega
  by_cases k1 : f.kind = 1
  · have hR : hbReply c ⟨true, po, d⟩ f = if (poPush c.w po f.r f.es).2.2 = 0 ∧ (poSite po).len.get s < (poPush c.w po f.r f.es).2.1 then
      ((hbWrite ⟨true, (poPush c.w po f.r f.es).1, d⟩ ⟨5, f.r, 0, clk0, f.es⟩).1, ⟨2, 0, (poPush c.w po f.r f.es).2.1, clk0, []⟩, (hbWrite ⟨true, (poPush c.w po f.r f.es).1, d⟩ ⟨5, f.r, 0, clk0, f.es⟩).2)
      else (⟨true, (poPush c.w po f.r f.es).1, d⟩, ⟨2, 0, (poPush c.w po f.r f.es).2.1, clk0, []⟩, (poPush c.w po f.r f.es).2.2) := by
      unfold hbReply; rw [if_pos k1, hs']
    rw [hR]
    clear hR
    have hpl := okF.most
    refine c_sreg rfl ?_
    refine s1 (r_eq rfl rfl) ?_
    refine s1 (r_asb rfl) ?_
    refine wn ?_
    refine c_cond rfl (fun h => ?_) (fun h => ?_)
    rotate_left
    · exact absurd k1 (of_decide_eq_false h)
    clear h
    have hpush := fun (w' : World) h1 h2 => c_poPush z.y po okP f.r f.es (by omega) (evOk_n okF.es) a cap hcap w' h1 h2
    refine c_sdraw2 mixed [(0, some 0), (1, some 0), (2, some 0), (3, some 0), (5, some 0), (7, some 0), (4, some 2), (6, some 2), (8, some 2), (9, none), (10, some 0), (11, some 0), (12, some 0), (13, some 0), (14, some 0)] [0, 0, 0, 0, 0, 0, 2, 0, 2, 0, 0, 0, 0, 0, 0] (Sof mm) (Sof mm) (fun _ h => h) (by kernel_rfl) rfl rfl (by kernel_rfl) (fun w7 hc => ?_)
    have mm := mm.frame hc
    refine q01 rfl (fun w => r_mvp rfl) ?_
    refine q01 rfl (fun w => r_nil rfl) ?_
    refine q01 rfl (fun w => r_fa rfl) ?_
    refine q01 rfl (fun w => r_fa rfl) ?_
    refine q01 rfl (fun w => r_fa rfl) ?_
    refine q01 rfl (fun w => r_fa rfl) ?_
    refine qA1 rfl (fun w m => r_ld rfl (m.b 0 rfl) rfl) mm ?_
    refine qA1 rfl (fun w m => r_ld rfl (m.b 3 rfl) rfl) mm ?_
    refine qA1 rfl (fun w m => r_ld rfl (m.b 3 rfl) rfl) mm ?_
    refine qo rfl (o_c3 rfl rfl rfl (hpush _ (mm.h 2 rfl) (fun w' hc ↦ HS w' (mm.chgIn 2 rfl hc))) ?_)
    rintro _ w8 ⟨sl', rfl, hm⟩
    have mm := mm.lift1 2 rfl hm
    refine ⟨trivial, ?_⟩
    refine q01 rfl (fun w => r_mvu rfl) ?_
    refine q01 rfl (fun w => r_exti rfl rfl) ?_
    refine q01 rfl (fun w => r_exti rfl rfl) ?_
    refine q01 rfl (fun w => r_asi rfl) ?_
    refine q01 rfl (fun w => r_asi rfl) ?_
    refine qn ?_
    generalize poPush c.w po f.r f.es = qq at mm ⊢
    obtain ⟨p1, n, cd⟩ := qq
    dsimp only
    have mm : Mem w F0 _ [bk z.q (hbB z c true) 64, dkI z.dq z.da z.dc z.dm d, poI c.w { z.y with sl := sl' } p1, bk b2 (recV f a cap) 40, bk b3 (recV rec0 none 0) 40, bk b5 (hsC (poSite po)) 34] := mm
    refine c_seq ?_
    refine c_sreg rfl ?_
    refine s1 (r_mvi (show _ = Value.int .i64 cd from rfl)) ?_
    refine s1 (r_eq rfl rfl) ?_
    refine s1 (r_mvb rfl) ?_
    refine sT rfl rfl (fun h => r_mvi (show _ = Value.int .i64 n from rfl)) ?_
    refine sT rfl rfl (fun h => r_fa rfl) ?_
    refine sT rfl rfl (fun h => r_ld (sel_t h :) (mm.b 3 rfl) rfl) ?_
    refine sT rfl rfl (fun h => r_fa rfl) ?_
    refine sT rfl rfl (fun h => r_ixa (sel_t h :) (sel_t h :) (by show 0 ≤ f.r; omega) (by show f.r < 5; omega)) ?_
    refine sT rfl rfl (fun h => r_ld (sel_t h :) (mm.b 5 rfl) (by rw [hs]; exact hs_nlen (poSite po) s (by omega))) ?_
    refine sT rfl rfl (fun h => r_gt (sel_t h :) (sel_t h :)) ?_
    refine s1 (r_and rfl rfl) ?_
    refine wn ?_
    refine c_cond rfl (fun h => ?_) (fun h => (c_skip (t_n ?_)))
    · have hc' : cd = 0 ∧ (poSite po).len.get s < n := by simpa using h
      rw [if_pos hc']
      clear h
      obtain ⟨hc0, hc2⟩ := hc'
      subst hc0
      have okR : RecOk ⟨5, f.r, 0, clk0, f.es⟩ := recOk5 hr0 (by omega) (by omega) okF.es
      have mm := Mem.closeN (A := hbIs c { z with y := { z.y with sl := sl' } } ⟨true, p1, d⟩) (B := [bk b2 (recV f a cap) 40, bk b3 (recV rec0 none 0) 40, bk b5 (hsC (poSite po)) 34]) mm
      have hwr := fun (w' : World) h1 h2 => c_hbWrite c { z with y := { z.y with sl := sl' } } p1 d ⟨5, f.r, 0, clk0, f.es⟩ okR (a := a) (cap := cap) hl w' h1 h2
      generalize hbWrite ⟨true, p1, d⟩ ⟨5, f.r, 0, clk0, f.es⟩ = qw at hwr ⊢
      obtain ⟨st', cd'⟩ := qw
      refine c_region rfl ?_
      refine s1 (r_mvp rfl) ?_
      refine s1 (r_fa rfl) ?_
      refine s1 (r_ld rfl (mm.b 1 rfl) rfl) ?_
      refine s1 (r_fa rfl) ?_
      refine s1 (r_ld rfl (mm.b 1 rfl) rfl) ?_
      refine s1 (r_bd (bi rfl (bi rfl (bs rfl bN))) rfl) ?_
      refine so (o_c2 rfl rfl (hwr _ (mm.h 0 rfl) (fun w' hc ↦ HS w' (mm.chgIn 0 rfl hc))) ?_)
      rintro _ w9 ⟨da', dc', rfl, hm'⟩
      have mm := mm.lift1 0 rfl hm'
      refine s1 (r_asi rfl) ?_
      refine wn (t_n ?_)
      refine c_sreg rfl ?_
      refine s1 (r_mvi (show _ = Value.int .i64 n from rfl)) ?_
      refine s1 (r_bd (bi rfl (bi rfl bN)) rfl) ?_
      refine s1 (r_mvi rfl) ?_
      refine ss (o_sta mm 2 rfl rfl rfl rfl rfl (Nat.le_of_ble_eq_true rfl) fun w10 mm => ?_)
      refine s1 (r_asi rfl) ?_
      refine wn ?_
      have mm : Mem w F0 _ [hbI c { z with y := { z.y with sl := sl' }, da := da', dc := dc' } st', bk b2 (recV f a cap) 40, bk b3 (recV ⟨2, 0, n, clk0, []⟩ none 0) 40, bk b5 (hsC (poSite po)) 34] := mm
      exact c_ret (retc2 rfl rfl (mm.b 2 rfl) rfl rfl ⟨{ z with y := { z.y with sl := sl' }, da := da', dc := dc' }, none, 0, rfl, rfl, (mm.pk [0] (by decide)).nilrow⟩)
    have hc' : ¬ (cd = 0 ∧ (poSite po).len.get s < n) := by simpa using h
    rw [if_neg hc']
    clear h
    refine c_sreg rfl ?_
    refine s1 (r_mvi (show _ = Value.int .i64 n from rfl)) ?_
    refine s1 (r_bd (bi rfl (bi rfl bN)) rfl) ?_
    refine s1 (r_mvi (show _ = Value.int .i64 cd from rfl)) ?_
    refine ss (o_sta mm 4 rfl rfl rfl rfl rfl (Nat.le_of_ble_eq_true rfl) fun w11 mm => ?_)
    refine s1 (r_asi rfl) ?_
    refine wn ?_
    have mm := Mem.closeN (A := hbIs c { z with y := { z.y with sl := sl' } } ⟨true, p1, d⟩) (B := [bk b2 (recV f a cap) 40, bk b3 (recV ⟨2, 0, n, clk0, []⟩ none 0) 40, bk b5 (hsC (poSite po)) 34]) mm
    exact c_ret (retc2 rfl rfl (mm.b 2 rfl) rfl rfl ⟨{ z with y := { z.y with sl := sl' } }, none, 0, rfl, rfl, (mm.pk [0] (by decide)).nilrow⟩)
  refine c_sreg rfl ?_
  refine s1 (r_eq rfl rfl) ?_
  refine s1 (r_asb rfl) ?_
  refine wn ?_
  refine c_cond rfl (fun h => ?_) (fun h => ?_)
  · exact absurd (of_decide_eq_true h) k1
  clear h
  refine c_sreg rfl ?_
  refine s1 (r_eq rfl rfl) ?_
  refine s1 (r_asb rfl) ?_
  refine wn ?_
  by_cases k3 : f.kind = 3
  · refine c_cond rfl (fun h => ?_) (fun h => ?_)
    rotate_left
    · exact absurd k3 (of_decide_eq_false h)
    clear h
    have hR : hbReply c ⟨true, po, d⟩ f = (⟨true, po, d⟩, ⟨4, 0, 0, clk0, (poFetch po f.r f.c).1⟩, (poFetch po f.r f.c).2) := by
      unfold hbReply; rw [if_neg k1, if_pos k3]
    rw [hR]
    have hfe := fun (w' : World) h1 => c_poFetch z.y po okP f.r f.c w' h1
    generalize poFetch po f.r f.c = qq at hfe ⊢
    obtain ⟨l, cd⟩ := qq
    dsimp only
    refine c_sdraw2 mixed [(0, some 0), (1, some 0), (2, some 0), (3, some 0), (5, some 0), (7, some 0), (4, some 2), (6, some 2), (8, some 2), (9, none), (10, some 0), (11, some 0), (12, some 0), (13, some 0), (14, some 0)] [0, 0, 0, 0, 0, 0, 2, 0, 2, 0, 0, 0, 0, 0, 0] (Sof mm) (Sof mm) (fun _ h => h) (by kernel_rfl) rfl rfl (by kernel_rfl) (fun w12 hc => ?_)
    have mm := mm.frame hc
    refine q01 rfl (fun w => r_mvp rfl) ?_
    refine q01 rfl (fun w => r_nil rfl) ?_
    refine q01 rfl (fun w => r_fa rfl) ?_
    refine q01 rfl (fun w => r_fa rfl) ?_
    refine q01 rfl (fun w => r_fa rfl) ?_
    refine q01 rfl (fun w => r_fa rfl) ?_
    refine qA1 rfl (fun w m => r_ld rfl (m.b 0 rfl) rfl) mm ?_
    refine qA1 rfl (fun w m => r_ld rfl (m.b 3 rfl) rfl) mm ?_
    refine qA1 rfl (fun w m => r_lda rfl (m.b 3 rfl) rfl) mm ?_
    refine qo rfl (o_c3 rfl rfl rfl (hfe _ (poR (mm.h 2 rfl))) ?_)
    rintro _ w13 ⟨a', c', rfl, hc, hn⟩
    have mm := mm.new hc hn
    refine ⟨trivial, ?_⟩
    refine q01 rfl (fun w => r_mvu rfl) ?_
    refine q01 rfl (fun w => r_exts rfl rfl) ?_
    refine q01 rfl (fun w => r_exti rfl rfl) ?_
    refine q01 rfl (fun w => r_ass rfl) ?_
    refine q01 rfl (fun w => r_asi rfl) ?_
    refine qn ?_
    refine c_sreg rfl ?_
    refine s1 (r_mvs rfl) ?_
    refine s1 (r_bd (bi rfl (bs rfl bN)) rfl) ?_
    refine s1 (r_mvi rfl) ?_
    refine ss (o_sta mm 4 rfl rfl rfl rfl rfl (Nat.le_of_ble_eq_true rfl) fun w14 mm => ?_)
    refine s1 (r_asi rfl) ?_
    refine wn ?_
    have mm := Mem.closeN (A := hbIs c z ⟨true, po, d⟩) (B := [bk b2 (recV f a cap) 40, bk b3 (recV ⟨4, 0, 0, clk0, l⟩ a' c') 40, bk b5 (hsC (poSite po)) 34, own 67 12 a' l.length c' (evsC l)]) mm
    exact c_ret (retc2 rfl rfl (mm.b 2 rfl) rfl rfl ⟨_, a', c', rfl, rfl, mm.pk [0, 4] (by decide)⟩)
  refine c_cond rfl (fun h => ?_) (fun h => ?_)
  · exact absurd (of_decide_eq_true h) k3
  clear h
  refine c_sreg rfl ?_
  refine s1 (r_eq rfl rfl) ?_
  refine s1 (r_asb rfl) ?_
  refine wn ?_
  by_cases k5 : f.kind = 5
  · refine c_cond rfl (fun h => ?_) (fun h => (c_skip (b_n (t_n ?_))))
    rotate_left
    · exact absurd k5 (of_decide_eq_false h)
    clear h
    have hR : hbReply c ⟨true, po, d⟩ f = if (poAck po f.r f.c).2 = 0 ∧ (poAck po f.r f.c).1.ack s ≠ po.ack s then
      ((hbWrite ⟨true, (poAck po f.r f.c).1, d⟩ ⟨6, f.r, 0, f.c, []⟩).1, rec0, (hbWrite ⟨true, (poAck po f.r f.c).1, d⟩ ⟨6, f.r, 0, f.c, []⟩).2)
    else (⟨true, (poAck po f.r f.c).1, d⟩, rec0, (poAck po f.r f.c).2) := by
      unfold hbReply; rw [if_neg k1, if_neg k3, if_pos k5, hs']
    rw [hR]
    have okA := poAck_ok okP f.r f.c okF.c
    have hak := fun (w' : World) h1 => c_poAck z.y po okP f.r f.c okF.c w' h1
    generalize poAck po f.r f.c = qq at hak okA ⊢
    obtain ⟨p1, cd⟩ := qq
    dsimp only
    refine c_sdraw2 mixed [(0, some 0), (1, some 0), (2, some 0), (3, some 0), (5, some 0), (7, some 0), (4, some 2), (6, some 2), (8, some 2), (9, none), (10, some 0)] [0, 0, 0, 0, 0, 0, 2, 0, 2, 0, 0] (Sof mm) (Sof mm) (fun _ h => h) (by kernel_rfl) rfl rfl (by kernel_rfl) (fun w15 hc => ?_)
    have mm := mm.frame hc
    refine q01 rfl (fun w => r_mvp rfl) ?_
    refine q01 rfl (fun w => r_nil rfl) ?_
    refine q01 rfl (fun w => r_fa rfl) ?_
    refine q01 rfl (fun w => r_fa rfl) ?_
    refine q01 rfl (fun w => r_fa rfl) ?_
    refine q01 rfl (fun w => r_fa rfl) ?_
    refine qA1 rfl (fun w m => r_ld rfl (m.b 0 rfl) rfl) mm ?_
    refine qA1 rfl (fun w m => r_ld rfl (m.b 3 rfl) rfl) mm ?_
    refine qA1 rfl (fun w m => r_lda rfl (m.b 3 rfl) rfl) mm ?_
    refine qo rfl (o_c3 rfl rfl rfl (hak _ (mm.h 2 rfl)) ?_)
    rintro _ w16 ⟨sl', rfl, hm⟩
    have mm := mm.lift1 2 rfl hm
    refine ⟨trivial, ?_⟩
    refine q01 rfl (fun w => r_asi rfl) ?_
    refine qn ?_
    have mm : Mem w F0 _ [bk z.q (hbB z c true) 64, dkI z.dq z.da z.dc z.dm d, poI c.w { z.y with sl := sl' } p1, bk b2 (recV f a cap) 40, bk b3 (recV rec0 none 0) 40, bk b5 (hsC (poSite po)) 34] := mm
    have hsl1 := siteTo_len p1 p1.shs.length
    have hsg1 := site_get p1 N n5 N (Nat.le_refl _) s (by omega)
    rw [if_pos hsN, if_pos hsN, if_pos hsN] at hsg1
    have hpo1 : poSite p1 = siteTo p1 N := by unfold poSite; rw [okA.1.shs]
    have hw0 : ClkW (po.ack s) := clk_ok_w (okP.ack s hsN)
    have hw1 : ClkW (p1.ack s) := clk_ok_w (okA.1.ack s hsN)
    by_cases hcd : cd = 0
    · subst hcd
      refine c_seq ?_
      refine c_sdraw2 mixed [(0, some 0), (1, some 0), (2, some 0), (3, some 0), (4, some 0), (5, some 0), (6, some 0), (10, some 0), (13, some 0), (15, some 0), (7, some 2), (11, some 2), (14, some 2), (16, some 2), (17, some 2), (8, none), (9, some 2), (12, some 2), (18, some 0), (19, some 0)] [0, 0, 0, 0, 0, 0, 0, 0, 2, 2, 0, 2, 2, 0, 2, 0, 2, 2, 0, 0] (Sof mm) (Sof mm) (fun _ h => h) (by kernel_rfl) rfl rfl (by kernel_rfl) (fun w17 hc => ?_)
      have mm := mm.frame hc
      refine q01 rfl (fun w => r_mvi (show _ = Value.int .i64 0 from rfl)) ?_
      refine q01 rfl (fun w => r_eq rfl rfl) ?_
      refine q01 rfl (fun w => r_mvb rfl) ?_
      refine q0K rfl rfl rfl (fun w => r_mvp rfl) ?_
      refine q0K rfl rfl rfl (fun w => r_nil rfl) ?_
      refine q0K rfl rfl rfl (fun w => r_fa rfl) ?_
      refine q0K rfl rfl rfl (fun w => r_fa rfl) ?_
      refine q0K rfl rfl rfl (fun w => r_fa rfl) ?_
      refine q0K rfl rfl rfl (fun w => r_fa rfl) ?_
      refine q0K rfl rfl rfl (fun w => r_fa rfl) ?_
      refine qAK rfl rfl rfl (fun w m => r_ld rfl (m.b 0 rfl) rfl) mm ?_
      refine qAK rfl rfl rfl (fun w m => r_ld rfl (m.b 3 rfl) rfl) mm ?_
      refine qAK rfl rfl rfl (fun w m => r_ld rfl (m.b 3 rfl) rfl) mm ?_
      refine qAK rfl rfl rfl (fun w m => r_ixa rfl rfl (by show 0 ≤ f.r; omega) (by show f.r < 5; omega)) mm ?_
      refine qAK rfl rfl rfl (fun w m => r_lda rfl (m.b 5 rfl) (hs_back (poSite po) hs (by unfold poSite; rw [hsl]; omega))) mm ?_
      refine qoK rfl rfl rfl (o_c1 rfl (c_poSite { z.y with sl := sl' } p1 okA.1 _ (poR (mm.h 2 rfl))) ?_)
      rintro _ w18 ⟨rfl, hc⟩
      have mm := mm.frame hc
      refine ⟨mm, ?_⟩
      refine qAK rfl rfl rfl (fun w m => r_fldg rfl (hs_segacks (poSite p1) (by unfold poSite; exact hsl1))) mm ?_
      refine qAK rfl rfl rfl (fun w m => r_ixva rfl rfl (by show 0 ≤ f.r; omega) (by show f.r < 5; omega) (acks_pack (c := p1.ack s) (poSite p1).acks hs (by unfold poSite; rw [hsl1]; omega) (by rw [hpo1]; exact hsg1.2.2))) mm ?_
      refine q0K rfl rfl rfl (fun w => r_nea clk_guard (clk_eq _ _ hw1 hw0) rfl (hs_pack (c := po.ack s) (poSite po) hs (by unfold poSite; rw [hsl]; omega) (by rw [hpo]; exact hsg.2.2))) ?_
      refine q01 rfl (fun w => r_and rfl rfl) ?_
      refine qn ?_
      by_cases hd : p1.ack s = po.ack s
      · rw [if_neg (fun h => h.2 hd)]
        refine c_cond rfl (fun h => ?_) (fun h => (c_skip (t_n ?_)))
        · simp [hd] at h
        clear h
        refine c_sreg rfl ?_
        refine s1 (r_bd bN rfl) ?_
        refine s1 (r_mvi (show _ = Value.int .i64 0 from rfl)) ?_
        refine ss (o_sta mm 4 rfl rfl rfl rfl rfl (Nat.le_of_ble_eq_true rfl) fun w19 mm => ?_)
        refine s1 (r_asi rfl) ?_
        refine wn ?_
        have mm := Mem.closeN (A := hbIs c { z with y := { z.y with sl := sl' } } ⟨true, p1, d⟩) (B := [bk b2 (recV f a cap) 40, bk b3 (recV rec0 none 0) 40, bk b5 (hsC (poSite po)) 34]) mm
        exact c_ret (retc2 rfl rfl (mm.b 2 rfl) rfl rfl ⟨{ z with y := { z.y with sl := sl' } }, none, 0, rfl, rfl, (mm.pk [0] (by decide)).nilrow⟩)
      rw [if_pos ⟨rfl, hd⟩]
      refine c_cond rfl (fun h => ?_) (fun h => (c_skip (t_n ?_)))
      rotate_left
      · simp [hd] at h
      clear h
      have okR : RecOk ⟨6, f.r, 0, f.c, []⟩ := recOk6 hr0 (by omega) okF.c
      have mm := Mem.closeN (A := hbIs c { z with y := { z.y with sl := sl' } } ⟨true, p1, d⟩) (B := [bk b2 (recV f a cap) 40, bk b3 (recV rec0 none 0) 40, bk b5 (hsC (poSite po)) 34]) mm
      have hwr := fun (w' : World) h1 h2 => c_hbWrite c { z with y := { z.y with sl := sl' } } p1 d ⟨6, f.r, 0, f.c, []⟩ okR (a := none) (cap := 0) hl w' h1 h2
      generalize hbWrite ⟨true, p1, d⟩ ⟨6, f.r, 0, f.c, []⟩ = qw at hwr ⊢
      obtain ⟨st', cd'⟩ := qw
      refine c_region rfl ?_
      refine s1 (r_mvp rfl) ?_
      refine s1 (r_fa rfl) ?_
      refine s1 (r_ld rfl (mm.b 1 rfl) rfl) ?_
      refine s1 (r_fa rfl) ?_
      refine s1 (r_lda rfl (mm.b 1 rfl) rfl) ?_
      refine s1 (r_bd (bi rfl (bi rfl (bg rfl bN))) rfl) ?_
      refine so (o_c2 rfl rfl (hwr _ (mm.h 0 rfl) (fun w' hc ↦ Cells.nil _ _)) ?_)
      rintro _ w20 ⟨da', dc', rfl, hm'⟩
      have mm := mm.lift1 0 rfl hm'
      refine s1 (r_asi rfl) ?_
      refine wn (t_n ?_)
      refine c_sreg rfl ?_
      refine s1 (r_bd bN rfl) ?_
      refine s1 (r_mvi rfl) ?_
      refine ss (o_sta mm 2 rfl rfl rfl rfl rfl (Nat.le_of_ble_eq_true rfl) fun w21 mm => ?_)
      refine s1 (r_asi rfl) ?_
      refine wn ?_
      have mm : Mem w F0 _ [hbI c { z with y := { z.y with sl := sl' }, da := da', dc := dc' } st', bk b2 (recV f a cap) 40, bk b3 (recV rec0 none 0) 40, bk b5 (hsC (poSite po)) 34] := mm
      exact c_ret (retc2 rfl rfl (mm.b 2 rfl) rfl rfl ⟨{ z with y := { z.y with sl := sl' }, da := da', dc := dc' }, none, 0, rfl, rfl, (mm.pk [0] (by decide)).nilrow⟩)
    rw [if_neg (fun h => hcd h.1)]
    refine c_seq ?_
    refine c_sdraw2 mixed [(0, some 0), (1, some 0), (2, some 0), (3, some 0), (4, some 0), (5, some 0), (6, some 0), (10, some 0), (13, some 0), (15, some 0), (7, some 2), (11, some 2), (14, some 2), (16, some 2), (17, some 2), (8, none), (9, some 2), (12, some 2), (18, some 0), (19, some 0)] [0, 0, 0, 0, 0, 0, 0, 0, 2, 2, 0, 2, 2, 0, 2, 0, 2, 2, 0, 0] (Sof mm) (Sof mm) (fun _ h => h) (by kernel_rfl) rfl rfl (by kernel_rfl) (fun w22 hc => ?_)
    have mm := mm.frame hc
    refine q01 rfl (fun w => r_mvi (show _ = Value.int .i64 cd from rfl)) ?_
    refine q01 rfl (fun w => r_eq rfl rfl) ?_
    refine q01 rfl (fun w => r_mvb (congrArg Value.bool (decide_eq_false (p := cd = 0) hcd))) ?_
    refine q0N rfl rfl rfl ?_
    refine q0N rfl rfl rfl ?_
    refine q0N rfl rfl rfl ?_
    refine q0N rfl rfl rfl ?_
    refine q0N rfl rfl rfl ?_
    refine q0N rfl rfl rfl ?_
    refine q0N rfl rfl rfl ?_
    refine qAN rfl rfl rfl mm ?_
    refine qAN rfl rfl rfl mm ?_
    refine qAN rfl rfl rfl mm ?_
    refine qAN rfl rfl rfl mm ?_
    refine qAN rfl rfl rfl mm ?_
    refine qoN rfl rfl rfl ⟨mm, ?_⟩
    refine qAN rfl rfl rfl mm ?_
    refine qAN rfl rfl rfl mm ?_
    refine q0N rfl rfl rfl ?_
    refine q01 rfl (fun w => (r_and (u := false) (show _ = Value.bool false from rfl) rfl)) ?_
    refine qn ?_
    refine c_cond rfl (fun h => ?_) (fun h => (c_skip (t_n ?_)))
    · simp at h
    clear h
    refine c_sreg rfl ?_
    refine s1 (r_bd bN rfl) ?_
    refine s1 (r_mvi (show _ = Value.int .i64 cd from rfl)) ?_
    refine ss (o_sta mm 4 rfl rfl rfl rfl rfl (Nat.le_of_ble_eq_true rfl) fun w23 mm => ?_)
    refine s1 (r_asi rfl) ?_
    refine wn ?_
    have mm := Mem.closeN (A := hbIs c { z with y := { z.y with sl := sl' } } ⟨true, p1, d⟩) (B := [bk b2 (recV f a cap) 40, bk b3 (recV rec0 none 0) 40, bk b5 (hsC (poSite po)) 34]) mm
    exact c_ret (retc2 rfl rfl (mm.b 2 rfl) rfl rfl ⟨{ z with y := { z.y with sl := sl' } }, none, 0, rfl, rfl, (mm.pk [0] (by decide)).nilrow⟩)
  refine c_cond rfl (fun h => ?_) (fun h => (c_skip (b_n (t_n ?_))))
  · exact absurd (of_decide_eq_true h) k5
  clear h
  have hR : hbReply c ⟨true, po, d⟩ f = (⟨true, po, d⟩, rec0, 23) := by
    unfold hbReply; rw [if_neg k1, if_neg k3, if_neg k5]
  rw [hR]
  refine c_sreg rfl ?_
  refine s1 (r_bd bN rfl) ?_
  refine ss (o_sta mm 4 rfl rfl rfl rfl rfl (Nat.le_of_ble_eq_true rfl) fun w24 mm => ?_)
  refine s1 (r_asi rfl) ?_
  refine wn ?_
  have mm := Mem.closeN (A := hbIs c z ⟨true, po, d⟩) (B := [bk b2 (recV f a cap) 40, bk b3 (recV rec0 none 0) 40, bk b5 (hsC (poSite po)) 34]) mm
  exact c_ret (retc2 rfl rfl (mm.b 2 rfl) rfl rfl ⟨_, none, 0, rfl, rfl, (mm.pk [0] (by decide)).nilrow⟩)
end Go.Proofs.Ytbcpabfemejlgaa
/- hub.Hub's Take, hub.New: plain, and the walks. -/
namespace Go.Proofs.Ytbcpabfemejlgaa
open K
set_option maxRecDepth 100000
set_option maxHeartbeats 4000000

def hbTake (c : Cf) (h : Hb) (b : List UInt8) : Hb × Int × List UInt8 × Int :=
  if h.up = false then (h, -1, [], 18)
  else if (takeF b).2 ≠ 0 then (h, -1, [], (takeF b).2)
  else if c.n ≤ (takeF b).1.r then (h, -1, [], 23)
  else if (hbReply c h (takeF b).1).2.2 ≠ 0 ∨ (hbReply c h (takeF b).1).2.1.kind = 0 then ((hbReply c h (takeF b).1).1, -1, [], (hbReply c h (takeF b).1).2.2)
  else ((hbReply c h (takeF b).1).1, (takeF b).1.r, frPut { (hbReply c h (takeF b).1).2.1 with r := (takeF b).1.r }, 0)
theorem hbReply_c (c : Cf) (h : Hb) (f : Rec) : (hbReply c h f).2.1.c = clk0 := by
  unfold hbReply
  split
  · split <;> rfl
  · split
    · rfl
    · split
      · split <;> rfl
      · rfl
theorem c_hbTake {N : Nat} (c : Cf) (hN : c.n = N) (z : HL) (st : Hb) (okP : st.up = true → PoOk N c.w st.po) (b : List UInt8) (hb : b.length ≤ 1099511627776) (v : Value) (hl : st.d.b.length ≤ 100000000) (w : World) (hI : (hbI c z st).holds w) (hs : Sl w v b) :
    Cl Try.prog 13 #[.pointer (some ⟨z.q, 0, none⟩), v] w
      (fun r w' => ∃ z' a' c', z'.q = z.q ∧ r = .tuple #[.int .i64 (hbTake c st b).2.1, .slice a' (hbTake c st b).2.2.1.length c', .int .i64 (hbTake c st b).2.2.2] ∧ Mem w (hbI c z st).foot w' [hbI c z' (hbTake c st b).1, own 5 1 a' (hbTake c st b).2.2.1.length c' (u8s (hbTake c st b).2.2.1)]) := by
  have hs' := hs
  obtain ⟨ab, cb, rfl, hcb, Hb⟩ := hs'
  obtain ⟨up, po, d⟩ := st
  have mm : Mem w (hbI c z ⟨up, po, d⟩).foot w (hbIs c z ⟨up, po, d⟩) := (Mem.one hI).open
  generalize hF0 : (hbI c z ⟨up, po, d⟩).foot = F0 at mm
  refine f_enter (args := [_, _]) Try.func13 rfl rfl ?_
  refine c_sreg rfl ?_
  refine s1 (r_asi rfl) ?_
  refine s1 (r_ass rfl) ?_
  refine s1 (r_asi rfl) ?_
  refine wn ?_
  refine c_seq ?_
  refine c_sreg rfl ?_
  refine s1 (r_mvp rfl) ?_
  refine s1 (r_nil rfl) ?_
  refine s1 (r_fa rfl) ?_
  refine s1 (r_fa rfl) ?_
  refine s1 (r_ld rfl (mm.b 0 rfl) rfl) ?_
  refine s1 (r_not rfl) ?_
  refine wn ?_
  cases up with
  | false =>
    refine c_cond rfl (fun h => ?_) (fun h => (c_skip (t_n ?_)))
    rotate_left
    · simp at h
    clear h
    refine c_sreg rfl ?_
    refine s1 (r_asi rfl) ?_
    refine s1 (r_ass rfl) ?_
    refine s1 (r_asi rfl) ?_
    refine wn ?_
    have hR : hbTake c ⟨false, po, d⟩ b = (⟨false, po, d⟩, -1, [], 18) := by unfold hbTake; rw [if_pos rfl]
    rw [hR]
    exact c_ret (ret3 rfl rfl rfl rfl ⟨z, none, 0, rfl, rfl, mm.close.nilrow⟩)
  | true =>
    refine c_cond rfl (fun h => ?_) (fun h => (c_skip (t_n ?_)))
    · simp at h
    clear h
    have mm : Mem w F0 w [bk z.q (hbB z c true) 64, dkI z.dq z.da z.dc z.dm d, poI c.w z.y po] := mm
    have okP := okP rfl
    have tok := fun h => takeF_ok (b := b) h
    have hft := c_fTake b hb _ w hs
    have hR : hbTake c ⟨true, po, d⟩ b = if (takeF b).2 ≠ 0 then (⟨true, po, d⟩, -1, [], (takeF b).2)
      else if c.n ≤ (takeF b).1.r then (⟨true, po, d⟩, -1, [], 23)
      else if (hbReply c ⟨true, po, d⟩ (takeF b).1).2.2 ≠ 0 ∨ (hbReply c ⟨true, po, d⟩ (takeF b).1).2.1.kind = 0 then ((hbReply c ⟨true, po, d⟩ (takeF b).1).1, -1, [], (hbReply c ⟨true, po, d⟩ (takeF b).1).2.2)
      else ((hbReply c ⟨true, po, d⟩ (takeF b).1).1, (takeF b).1.r, frPut { (hbReply c ⟨true, po, d⟩ (takeF b).1).2.1 with r := (takeF b).1.r }, 0) := by
      unfold hbTake; rw [if_neg (by simp)]
    rw [hR]
    clear hR
    generalize takeF b = qq at tok hft ⊢
    obtain ⟨f, cd⟩ := qq
    dsimp only at tok hft ⊢
    refine c_sreg rfl ?_
    refine s1 (r_mvs rfl) ?_
    refine so (o_c1 rfl hft ?_)
    rintro _ w2 ⟨a2, c2, rfl, hc, hn⟩
    have mm := mm.new hc hn
    refine s1 (r_mvu rfl) ?_
    refine s1 (r_extg rfl rfl) ?_
    refine s1 (r_exti rfl rfl) ?_
    refine so (o_al mm fun b3 w3 mm => ?_)
    refine ss (o_sta mm 4 rfl rfl rfl rfl rfl (Nat.le_of_ble_eq_true rfl) fun w4 mm => ?_)
    refine s1 (r_asi rfl) ?_
    refine wn ?_
    have mm : Mem w F0 _ [bk z.q (hbB z c true) 64, dkI z.dq z.da z.dc z.dm d, poI c.w z.y po, own 67 12 a2 f.es.length c2 (evsC f.es), bk b3 (recV f a2 c2) 40] := mm
    refine c_seq ?_
    refine c_sreg rfl ?_
    refine s1 (r_mvi rfl) ?_
    refine s1 (r_ne rfl rfl) ?_
    refine wn ?_
    by_cases hcd : cd = 0
    rotate_left
    · rw [if_pos hcd]
      refine c_cond rfl (fun h => ?_) (fun h => (c_skip (t_n ?_)))
      rotate_left
      · simp [hcd] at h
      clear h
      refine c_sreg rfl ?_
      refine s1 (r_mvi rfl) ?_
      refine s1 (r_asi rfl) ?_
      refine s1 (r_ass rfl) ?_
      refine s1 (r_asi rfl) ?_
      refine wn ?_
      have mm := (mm.pk [0, 1, 2] (by decide))
      have mm : Mem w F0 _ [hbI c z ⟨true, po, d⟩] := Mem.close (A := hbIs c z ⟨true, po, d⟩) mm
      exact c_ret (ret3 rfl rfl rfl rfl ⟨z, none, 0, rfl, rfl, mm.nilrow⟩)
    rw [if_neg (fun h => h hcd)]
    refine c_cond rfl (fun h => ?_) (fun h => (c_skip (t_n ?_)))
    · simp [hcd] at h
    clear h
    obtain ⟨hb2, hfm, -⟩ := tok hcd
    have okF := frMay_ok hfm
    refine c_seq ?_
    refine c_sdraw2 mixed [(0, some 0), (2, some 0), (3, some 0), (4, some 0), (5, some 0), (1, some 2), (6, some 2), (7, some 0)] [0, 0, 0, 0, 0, 0, 2, 0] (Sof mm) (Sof mm) (fun _ h => h) (by kernel_rfl) rfl rfl (by kernel_rfl) (fun w5 hc => ?_)
    have mm := mm.frame hc
    refine q01 rfl (fun w => r_fa rfl) ?_
    refine q01 rfl (fun w => r_mvp rfl) ?_
    refine q01 rfl (fun w => r_nil rfl) ?_
    refine q01 rfl (fun w => r_fa rfl) ?_
    refine q01 rfl (fun w => r_fa rfl) ?_
    refine qA1 rfl (fun w m => r_ld rfl (m.b 4 rfl) rfl) mm ?_
    refine qA1 rfl (fun w m => r_ld rfl (m.b 0 rfl) rfl) mm ?_
    refine q01 rfl (fun w => r_ge rfl rfl) ?_
    refine qn ?_
    by_cases hr : c.n ≤ f.r
    · rw [if_pos hr]
      refine c_cond rfl (fun h => ?_) (fun h => (c_skip (t_n ?_)))
      rotate_left
      · simp at h; omega
      clear h
      refine c_sreg rfl ?_
      refine s1 (r_asi rfl) ?_
      refine s1 (r_ass rfl) ?_
      refine s1 (r_asi rfl) ?_
      refine wn ?_
      have mm := (mm.pk [0, 1, 2] (by decide))
      have mm : Mem w F0 _ [hbI c z ⟨true, po, d⟩] := Mem.close (A := hbIs c z ⟨true, po, d⟩) mm
      exact c_ret (ret3 rfl rfl rfl rfl ⟨z, none, 0, rfl, rfl, mm.nilrow⟩)
    rw [if_neg hr]
    refine c_cond rfl (fun h => ?_) (fun h => (c_skip (t_n ?_)))
    · simp at h; omega
    clear h
    have hcap := own_le (mm.o 3 rfl)
    have mm := Mem.closeN (A := hbIs c z ⟨true, po, d⟩) (B := [own 67 12 a2 f.es.length c2 (evsC f.es), bk b3 (recV f a2 c2) 40]) mm
    have hre := fun (w' : World) h1 h2 => c_hbReply c z po d okP f okF (by omega) a2 c2 hcap hl w' h1 h2
    have hrc := hbReply_c c ⟨true, po, d⟩ f
    generalize hbReply c ⟨true, po, d⟩ f = qr at hre hrc ⊢
    obtain ⟨st', g, cd'⟩ := qr
    dsimp only at hre hrc ⊢
    refine c_sreg rfl ?_
    refine s1 (r_mvp rfl) ?_
    refine s1 (r_lda rfl (mm.b 2 rfl) rfl) ?_
    refine so (o_c2 rfl rfl (hre _ (mm.h 0 rfl) (mm.keepO (k := 0) (j := 1) rfl rfl (by decide))) ?_)
    rintro _ w6 ⟨z', a', c', hzq, rfl, hm⟩
    have mm := mm.liftL 0 rfl hm
    refine s1 (r_mvu rfl) ?_
    refine s1 (r_extg rfl rfl) ?_
    refine s1 (r_exti rfl rfl) ?_
    refine so (o_al mm fun b7 w7 mm => ?_)
    refine ss (o_sta mm 4 rfl rfl rfl rfl rfl (Nat.le_of_ble_eq_true rfl) fun w8 mm => ?_)
    refine s1 (r_asi rfl) ?_
    refine wn ?_
    have mm : Mem w F0 _ [hbI c z' st', own 67 12 a2 f.es.length c2 (evsC f.es), bk b3 (recV f a2 c2) 40, own 67 12 a' g.es.length c' (evsC g.es), bk b7 (recV g a' c') 40] := mm
    refine c_seq ?_
    refine c_sreg rfl ?_
    refine s1 (r_mvi rfl) ?_
    refine s1 (r_ne rfl rfl) ?_
    refine s1 (r_mvb rfl) ?_
    refine sF rfl rfl (fun h => r_fa rfl) ?_
    refine sF rfl rfl (fun h => r_ld (sel_t h :) (mm.b 4 rfl) rfl) ?_
    refine sF rfl rfl (fun h => r_eq (sel_t h :) rfl) ?_
    refine s1 (r_or rfl rfl) ?_
    refine wn ?_
    by_cases hk : cd' ≠ 0 ∨ g.kind = 0
    · rw [if_pos hk]
      refine c_cond rfl (fun h => ?_) (fun h => (c_skip (t_n ?_)))
      rotate_left
      · simp at h
        rcases hk with hk | hk
        · exact absurd h.1 hk
        · exact absurd hk h.2
      clear h
      refine c_sreg rfl ?_
      refine s1 (r_mvi rfl) ?_
      refine s1 (r_asi rfl) ?_
      refine s1 (r_ass rfl) ?_
      refine s1 (r_asi rfl) ?_
      refine wn ?_
      exact c_ret (ret3 rfl rfl rfl rfl ⟨z', none, 0, hzq, rfl, (mm.pk [0] (by decide)).nilrow⟩)
    rw [if_neg hk]
    refine c_cond rfl (fun h => ?_) (fun h => (c_skip (t_n ?_)))
    · exact absurd (by simpa using h) hk
    clear h
    refine c_sreg rfl ?_
    refine s1 (r_fa rfl) ?_
    refine s1 (r_ld rfl (mm.b 2 rfl) rfl) ?_
    refine s1 (r_fa rfl) ?_
    refine ss (o_st mm 4 rfl rfl rfl rfl rfl fun w9 mm => ?_)
    refine wn ?_
    have hw : ClkW ({ g with r := f.r } : Rec).c := by show ClkW g.c; rw [hrc]; exact clk0_w
    have hpu := fun (w' : World) (H : Cells w' a' (evsC g.es)) => c_fPut { g with r := f.r } (cap := c') w' H hw
    have mm : Mem w F0 _ [hbI c z' st', own 67 12 a2 f.es.length c2 (evsC f.es), bk b3 (recV f a2 c2) 40, own 67 12 a' g.es.length c' (evsC g.es), bk b7 (recV { g with r := f.r } a' c') 40] := mm
    generalize frPut { g with r := f.r } = out at hpu ⊢
    refine c_sreg rfl ?_
    refine s1 (r_lda rfl (mm.b 4 rfl) rfl) ?_
    refine so (o_c1 rfl (hpu _ (mm.c 3 rfl)) ?_)
    rintro _ w10 ⟨a10, c10, rfl, hc, hn⟩
    have mm := mm.new hc hn
    refine s1 (r_mvu rfl) ?_
    refine s1 (r_exts rfl rfl) ?_
    refine s1 (r_exti rfl rfl) ?_
    refine s1 (r_ass rfl) ?_
    refine s1 (r_asi rfl) ?_
    refine wn ?_
    refine c_sreg rfl ?_
    refine s1 (r_fa rfl) ?_
    refine s1 (r_ld rfl (mm.b 2 rfl) rfl) ?_
    refine s1 (r_mvs rfl) ?_
    refine s1 (r_asi rfl) ?_
    refine s1 (r_ass rfl) ?_
    refine s1 (r_asi rfl) ?_
    refine wn ?_
    exact c_ret (ret3 rfl rfl rfl rfl ⟨z', a10, c10, hzq, rfl, mm.pk [0, 5] (by decide)⟩)
theorem c_hbNew0 (c : Cf) (hm : cfMay c = false) (w : World) : Cl Try.prog 7 #[.agg (cfC c).toArray] w (fun r w' => r = .tuple #[.pointer none, .int .i64 1] ∧ Chg No w w') := by
  refine f_enter (args := [_]) Try.func7 rfl rfl ?_
  have mm := Mem.nil No w
  refine c_sreg rfl ?_
  refine so (o_bxa mm rfl fun b2 w2 mm => ?_)
  refine s1 (r_asp rfl) ?_
  refine s1 (r_asi rfl) ?_
  refine wn ?_
  have hma := fun (w' : World) => c_eMay c w'
  rw [hm] at hma
  refine c_seq ?_
  refine c_sreg rfl ?_
  refine s1 (r_lda rfl (mm.b 0 rfl) rfl) ?_
  refine so (o_c1 rfl (hma _) ?_)
  rintro _ w3 ⟨rfl, hc⟩
  have mm := mm.frame hc
  refine s1 (r_not rfl) ?_
  refine wn ?_
  refine c_cond rfl (fun h => ?_) (fun h => (c_skip (t_n ?_)))
  rotate_left
  · simp at h
  clear h
  refine c_sreg rfl ?_
  refine s1 (r_asp rfl) ?_
  refine s1 (r_asi rfl) ?_
  refine wn ?_
  exact c_ret (ret2 rfl rfl rfl ⟨rfl, mm.chg⟩)
theorem cf_n {c : Cf} (hm : cfMay c = true) : ∃ n : Nat, c.n = n ∧ 1 ≤ n ∧ n ≤ 5 ∧ 1 ≤ c.w ∧ c.w ≤ 4 := by
  have h := (cfMay_all.1 hm) 0 (by decide)
  have h1 := (cfMay_all.1 hm) 1 (by decide)
  unfold cfOk at h h1
  simp only [Bool.and_eq_true, decide_eq_true_eq] at h h1
  have h : 1 ≤ c.n ∧ c.n ≤ 5 := h
  have h1 : 1 ≤ c.w ∧ c.w ≤ 4 := h1
  exact ⟨c.n.toNat, by omega, by omega, by omega, h1.1, h1.2⟩
theorem c_hbNew (c : Cf) (n : Nat) (hn : c.n = n) (h5 : n ≤ 5) (hm : cfMay c = true) (w : World) : Cl Try.prog 7 #[.agg (cfC c).toArray] w (fun r w' => ∃ z, r = .tuple #[.pointer (some ⟨z.q, 0, none⟩), .int .i64 0] ∧ Chg No w w' ∧ New w w' (hbI c z ⟨true, poNew n, ⟨[], false, none⟩⟩)) := by
  refine f_enter (args := [_]) Try.func7 rfl rfl ?_
  have mm := Mem.nil No w
  refine c_sreg rfl ?_
  refine so (o_bxa mm rfl fun b2 w2 mm => ?_)
  refine s1 (r_asp rfl) ?_
  refine s1 (r_asi rfl) ?_
  refine wn ?_
  have hma := fun (w' : World) => c_eMay c w'
  rw [hm] at hma
  refine c_seq ?_
  refine c_sreg rfl ?_
  refine s1 (r_lda rfl (mm.b 0 rfl) rfl) ?_
  refine so (o_c1 rfl (hma _) ?_)
  rintro _ w3 ⟨rfl, hc⟩
  have mm := mm.frame hc
  refine s1 (r_not rfl) ?_
  refine wn ?_
  refine c_cond rfl (fun h => ?_) (fun h => (c_skip (t_n ?_)))
  · simp at h
  clear h
  refine c_sdraw2 mixed [(0, some 2), (3, some 2), (1, none), (2, some 2), (4, none), (5, some 0), (6, none), (7, some 0), (8, some 0)] [0, 2, 2, 2, 2, 0, 0, 0, 0] (Sof (mm.pk [0] (by decide))) (Sof (mm.pk [0] (by decide))) (fun _ h => h) (by kernel_rfl) rfl rfl (by kernel_rfl) (fun w4 hc => ?_)
  have mm := mm.frame hc
  refine qA1 rfl (fun w m => r_lda rfl (m.b 0 rfl) rfl) (mm.pk [0] (by decide)) ?_
  refine qA1 rfl (fun w m => r_lda rfl (m.b 0 rfl) rfl) (mm.pk [0] (by decide)) ?_
  refine qo rfl (o_c1 rfl (c_poNew c n hn h5 _) ?_)
  rintro _ w5 ⟨y, rfl, hc, hn1⟩
  have mm := mm.new hc hn1
  refine ⟨(mm.pk [0] (by decide)), ?_⟩
  refine qA1 rfl (fun w m => r_bd (bp rfl (bb rfl bN)) rfl) (mm.pk [0] (by decide)) ?_
  refine qo rfl (o_c0 (c_dkNew _) ?_)
  rintro _ w6 ⟨dq, dm, rfl, hc, hn1⟩
  have mm := mm.new hc hn1
  refine ⟨(mm.pk [0] (by decide)), ?_⟩
  refine q01 rfl (fun w => r_bd (bg rfl (bg rfl (bp rfl bN))) rfl) ?_
  refine qo rfl (o_bxa mm rfl fun b7 w7 mm => ⟨trivial, ?_⟩)
  refine q01 rfl (fun w => r_asp rfl) ?_
  refine q01 rfl (fun w => r_asi rfl) ?_
  refine qn ?_
  have mm : Mem w No _ [bk b7 (hbB ⟨b7, y, dq, none, 0, dm⟩ c true) 64, dkI dq none 0 dm ⟨[], false, none⟩, poI c.w y (poNew n)] := mm.pk [3, 2, 1] (by decide)
  have mm : Mem w No _ [hbI c ⟨b7, y, dq, none, 0, dm⟩ ⟨true, poNew n, ⟨[], false, none⟩⟩] := Mem.close (A := hbIs c ⟨b7, y, dq, none, 0, dm⟩ ⟨true, poNew n, ⟨[], false, none⟩⟩) mm
  exact c_ret (ret2 rfl rfl rfl ⟨⟨b7, y, dq, none, 0, dm⟩, rfl, mm.chg, mm.isNew 0 rfl⟩)
end Go.Proofs.Ytbcpabfemejlgaa
