/- kithlaw18.RecordJoins: the walk. -/
import Derived.Test.YtgdbbaggkoillaaRi
namespace Go.Proofs.Ytgdbbaggkoillaa
open K
set_option maxRecDepth 100000
set_option maxHeartbeats 4000000

theorem sl_ownc {w0 w : World} {F0 : Nat → Prop} {L : List It} (mm : Mem w0 F0 w L) (k : Nat) {a : Option Addr} {n c : Nat} {cs : List Value} {b : List UInt8} (hk : nth L k = some (own 5 1 a n c cs)) (hn : n = b.length) (hc : cs = u8s b) : Sl w (.slice a n c) b := by
  subst hn; subst hc; exact ⟨a, c, rfl, own_le (mm.o k hk), mm.c k hk⟩
theorem slr_ownc {w0 w : World} {F0 : Nat → Prop} {L : List It} (mm : Mem w0 F0 w L) (k : Nat) {a : Option Addr} {n c : Nat} {cs : List Value} {ms : List RecM} (hk : nth L k = some (own 43 9 a n c cs)) (hn : n = ms.length) (hc : cs = rmsC ms) (he : ∀ m ∈ ms, Cells w m.2.1 (evsC m.1.es)) : Slr w (.slice a n c) ms := by
  subst hn; subst hc; exact ⟨a, c, rfl, mm.c k hk, he⟩
theorem ev_app {w : World} {ms ns : List RecM} (h1 : ∀ m ∈ ms, Cells w m.2.1 (evsC m.1.es)) (h2 : ∀ m ∈ ns, Cells w m.2.1 (evsC m.1.es)) : ∀ m ∈ ms ++ ns, Cells w m.2.1 (evsC m.1.es) := fun m hm => (List.mem_append.1 hm).elim (h1 m) (h2 m)
theorem c_RecordJoins (la : List RecM) (hina : ∀ m ∈ la, RecIn m.1) (lb : List RecM) (hinb : ∀ m ∈ lb, RecIn m.1) (v u : Value) (w : World) (hs : Slr w v la) (ht : Slr w u lb) : Cl Try.prog 17 #[v, u] w (fun v w' => v = .bool true ∧ Chg No w w') := by
  have hs0 := hs
  have ht0 := ht
  obtain ⟨a, c, rfl, H, He⟩ := hs
  obtain ⟨a', c', rfl, H', He'⟩ := ht
  refine f_enter (args := [_, _]) Try.func17 rfl rfl ?_
  have mm := Mem.nil No w
  have hoka := madeR_ok la 10
  have hokb := madeR_ok lb 10
  have hplea := putsR_le (madeR la 10) hoka
  have hpleb := putsR_le (madeR lb 10) hokb
  have hrla : (madeR la 10).length ≤ 10 := by unfold madeR; rw [List.length_map, List.length_take]; omega
  have hrlb : (madeR lb 10).length ≤ 10 := by unfold madeR; rw [List.length_map, List.length_take]; omega
  refine c_sreg rfl ?_
  refine s1 (r_asb rfl) ?_
  refine wn ?_
  refine c_sreg rfl ?_
  refine so (o_c0 (c_shown18 _) ?_)
  rintro _ w2 ⟨rfl, hc⟩
  have mm := mm.frame hc
  refine s1 (r_asb rfl) ?_
  refine wn ?_
  refine c_sreg rfl ?_
  refine s1 (r_mvs rfl) ?_
  refine so (o_c1 rfl (c_made la hina _ _ (hs0.fr mm.chg)) ?_)
  rintro _ w3 ⟨ms, ao, co, ab, cb, aa, ca, hms, rfl, hmd⟩
  have mm := mm.join hmd
  refine s1 (r_mvu rfl) ?_
  refine s1 (r_exts rfl rfl) ?_
  refine s1 (r_exts rfl rfl) ?_
  refine s1 (r_exts rfl rfl) ?_
  refine s1 (r_ass rfl) ?_
  refine s1 (r_ass rfl) ?_
  refine s1 (r_ass rfl) ?_
  refine wn ?_
  generalize madeR la 10 = rs at *
  refine c_sreg rfl ?_
  refine s1 (r_mvs rfl) ?_
  refine so (o_c1 rfl (c_made lb hinb _ _ (ht0.fr mm.chg)) ?_)
  rintro _ w4 ⟨ns, bo, do', bb, db, ba, da, hns, rfl, hmd⟩
  have mm := mm.join hmd
  refine s1 (r_mvu rfl) ?_
  refine s1 (r_exts rfl rfl) ?_
  refine s1 (r_exts rfl rfl) ?_
  refine s1 (r_exts rfl rfl) ?_
  refine s1 (r_ass rfl) ?_
  refine s1 (r_ass rfl) ?_
  refine s1 (r_ass rfl) ?_
  refine wn ?_
  generalize madeR lb 10 = ss at *
  have hml : ms.length = rs.length := by have := congrArg List.length hms; rw [List.length_map] at this; exact this
  have hnl : ns.length = ss.length := by have := congrArg List.length hns; rw [List.length_map] at this; exact this
  have hwms := recW_all hms hoka
  have hokab : ∀ x ∈ rs ++ ss, RecOk x := fun x hx => by
    rcases List.mem_append.1 hx with hx | hx
    · exact hoka x hx
    · exact hokb x hx
  have hpab : putsR (rs ++ ss) ++ [] = [] ++ putsR rs ++ putsR ss := by rw [putsR_append, List.append_nil, List.nil_append]
  have hplab : (putsR (rs ++ ss)).length = (putsR rs).length + (putsR ss).length := by rw [putsR_append, List.length_append]
  refine c_sreg rfl ?_
  refine so (o_bs0 mm fun a5 c5 w5 mm => ?_)
  refine s1 (r_mvs rfl) ?_
  refine so (o_ap mm 8 rfl rfl rfl (src_own mm 1 rfl (ones_u8s _)) (by omega) (by unfold maxLen; omega) fun a6 c6 w6 mm => ?_)
  refine s1 (r_mvs rfl) ?_
  refine so (o_ap mm 8 rfl rfl rfl (src_own mm 5 rfl (ones_u8s _)) (by omega) (by unfold maxLen; omega) fun a7 c7 w7 mm => ?_)
  refine so (o_c1 rfl (c_rAll (rs ++ ss) hokab [] stop_nil (by rw [List.append_nil]; omega) _ _ (sl_ownc mm 8 rfl (by rw [List.append_nil]; omega) (by rw [hpab, u8s_append, u8s_append]; rfl))) ?_)
  rintro _ w8 ⟨ms2, a2, c2, hms2, rfl, hmd⟩
  have mm := mm.join hmd
  refine s1 (r_mvu rfl) ?_
  refine s1 (r_exts rfl rfl) ?_
  refine s1 (r_exti rfl rfl) ?_
  refine s1 (r_ass rfl) ?_
  refine s1 (r_asi rfl) ?_
  refine wn ?_
  refine c_sreg rfl ?_
  refine so (o_bs0 mm fun a9 c9 w9 mm => ?_)
  refine s1 (r_mvs rfl) ?_
  refine so (o_ap mm 11 rfl rfl rfl (src_own mm 1 rfl (ones_u8s _)) (by omega) (by unfold maxLen; omega) fun a10 c10 w10 mm => ?_)
  refine so (o_bi1 mm rfl fun a11 c11 w11 mm => ?_)
  refine so (o_ap mm 11 rfl rfl rfl (src_own mm 12 rfl rfl) (by omega) (by unfold maxLen; omega) fun a12 c12 w12 mm => ?_)
  refine so (o_c1 rfl (c_rAll rs hoka [128] stop_128 (by rw [List.length_append]; show _ + 1 ≤ _; omega) _ _ (sl_ownc mm 11 rfl (by rw [List.length_append]; show _ = _ + 1; omega) (by rw [u8s_append]; rfl))) ?_)
  rintro _ w13 ⟨ms3, a3, c3, hms3, rfl, hmd⟩
  have mm := mm.join hmd
  refine s1 (r_mvu rfl) ?_
  refine s1 (r_exts rfl rfl) ?_
  refine s1 (r_exti rfl rfl) ?_
  refine s1 (r_ass rfl) ?_
  refine s1 (r_asi rfl) ?_
  refine wn ?_
  have hml2 : ms2.length = rs.length + ss.length := by have := congrArg List.length hms2; rw [List.length_map, List.length_append] at this; exact this
  have hml3 : ms3.length = rs.length := by have := congrArg List.length hms3; rw [List.length_map] at this; exact this
  have hmns : (ms ++ ns).map (·.1) = rs ++ ss := by rw [List.map_append, hms, hns]
  refine c_sreg rfl ?_
  refine s1 (r_mvb rfl) ?_
  refine s1 (r_mvb rfl) ?_
  refine sT rfl rfl (fun h => r_mvi rfl) ?_
  refine sT rfl rfl (fun h => r_mvs rfl) ?_
  refine sT rfl rfl (fun h => r_len (sel_t h :)) ?_
  refine sT rfl rfl (fun h => r_mvs rfl) ?_
  refine sT rfl rfl (fun h => r_len (sel_t h :)) ?_
  refine sT rfl rfl (fun h => r_add (sel_t h :) (sel_t h :) (wi (by omega) (by omega))) ?_
  refine sT rfl rfl (fun h => r_eq (sel_t h :) (sel_t h :)) ?_
  refine s1 (r_and rfl rfl) ?_
  refine s1 (r_mvb rfl) ?_
  refine s1k rfl (congrArg Value.bool (by simp; omega : _ = true)) (r_mvs rfl) ?_
  refine sok rfl (congrArg Value.bool (by simp; omega : _ = true)) (o_bs0 mm fun a14 c14 w14 mm => ?_)
  refine s1k rfl (congrArg Value.bool (by simp; omega : _ = true)) (r_mvs rfl) ?_
  refine sok rfl (congrArg Value.bool (by simp; omega : _ = true)) (o_ap mm 15 rfl rfl rfl (src_own mm 0 rfl (ones_rms _)) (by omega) (by unfold maxLen; omega) fun a15 c15 w15 mm => ?_)
  refine s1k rfl (congrArg Value.bool (by simp; omega : _ = true)) (r_mvs rfl) ?_
  refine sok rfl (congrArg Value.bool (by simp; omega : _ = true)) (o_ap mm 15 rfl rfl rfl (src_own mm 4 rfl (ones_rms _)) (by omega) (by unfold maxLen; omega) fun a16 c16 w16 mm => ?_)
  refine sok rfl (congrArg Value.bool (by simp; omega : _ = true)) (o_c2 rfl rfl (c_same18 ms2 (ms ++ ns) (recW_all hms2 hokab) (recW_all hmns hokab) (by omega) _ _ _ (Slr.of mm 9 10 rfl rfl) (slr_ownc mm 15 rfl (by rw [List.length_append]; omega) (by rw [rmsC_append]; rfl) (ev_app (mm.evc 3 rfl) (mm.evc 7 rfl)))) ?_)
  rintro _ w17 ⟨rfl, hc⟩
  have mm := mm.frame hc
  refine s1 (r_and (congrArg Value.bool (by simp; omega : _ = true)) rfl) ?_
  refine s1 (r_mvb rfl) ?_
  refine sT rfl rfl (fun h => r_mvi rfl) ?_
  refine sT rfl rfl (fun h => r_mvs rfl) ?_
  refine sT rfl rfl (fun h => r_len (sel_t h :)) ?_
  refine sT rfl rfl (fun h => r_eq (sel_t h :) (sel_t h :)) ?_
  refine s1 (r_and rfl rfl) ?_
  refine s1 (r_mvb rfl) ?_
  refine sT rfl rfl (fun h => r_mvs rfl) ?_
  refine sT rfl rfl (fun h => r_mvs rfl) ?_
  refine sTw (I := Sof mm) rfl rfl mm (fun h => o_c2 (sel_t h :) (sel_t h :) (c_same18 ms3 ms (recW_all hms3 hoka) hwms (by omega) _ _ _ (Slr.of mm 13 14 rfl rfl) (Slr.of mm 0 3 rfl rfl)) (fun _ _ hh => ⟨hh.1, mm.frame hh.2⟩)) (fun w18 mm => ?_)
  refine s1 (r_and rfl rfl) ?_
  refine s1 (r_asb rfl) ?_
  refine wn ?_
  refine c_ret (ret1 rfl rfl ⟨congrArg Value.bool (?_ : _ = true), mm.chg⟩)
  rw [hms2, hmns, hms3, hms]
  simp
end Go.Proofs.Ytgdbbaggkoillaa

