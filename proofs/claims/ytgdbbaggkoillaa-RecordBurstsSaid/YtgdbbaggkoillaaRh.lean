/- kithlaw18.made: the walk. -/
import Derived.Test.YtgdbbaggkoillaaRg
import Derived.Test.YtgdbbaggkoillaaRf
namespace Go.Proofs.Ytgdbbaggkoillaa
open K
set_option maxRecDepth 100000
set_option maxHeartbeats 4000000

def offs (rs : List Rec) (n : Nat) : List Value := (List.range n).map fun i => Value.int .i64 ((putsR (rs.take i)).length : Nat)
theorem offs_succ (rs : List Rec) (n : Nat) : offs rs (n + 1) = offs rs n ++ [Value.int .i64 ((putsR (rs.take n)).length : Nat)] := by unfold offs; rw [List.range_succ, List.map_append]; rfl
theorem offs_congr {rs ss : List Rec} {n : Nat} (h : rs.take n = ss.take n) : offs rs n = offs ss n := by
  unfold offs
  apply List.map_congr_left
  intro i hi
  have hi : i < n := List.mem_range.1 hi
  have : rs.take i = ss.take i := by
    have h1 := congrArg (List.take i) h
    rw [List.take_take, List.take_take, Nat.min_eq_left (by omega)] at h1
    exact h1
  rw [this]
theorem offs_get (rs : List Rec) (n i : Nat) (h : i < n) : nth (offs rs n) (((i : Nat) : Int).toNat * 1) = some (.int .i64 ((putsR (rs.take i)).length : Nat)) := by
  rw [nth_eq]
  simp [offs, h]
def madeR (l : List RecM) (n : Nat) : List Rec := (l.take n).map fun m => fitRec m.1
theorem madeR_succ (l : List RecM) (i : Nat) (h : i < l.length) : madeR l (i + 1) = madeR l i ++ [fitRec l[i].1] := by
  unfold madeR; rw [List.take_succ_eq_append_getElem h, List.map_append]; rfl
theorem madeR_len (l : List RecM) (i : Nat) (h : i ≤ l.length) : (madeR l i).length = i := by unfold madeR; rw [List.length_map, List.length_take]; omega
theorem madeR_ok (l : List RecM) (i : Nat) : ∀ x ∈ madeR l i, RecOk x := by
  intro x hx
  obtain ⟨m, _, rfl⟩ := List.mem_map.1 hx
  exact fitRec_ok m.1
theorem putR_le {x : Rec} (ok : RecOk x) : (putR x).length ≤ 210000 := by
  have h1 := bodyR_len ok
  have h2 := vput_lenR ok
  have h3 := sealL_length (bodyR x)
  unfold putR
  rw [List.length_append]
  omega
theorem putsR_le : ∀ rs : List Rec, (∀ x ∈ rs, RecOk x) → (putsR rs).length ≤ 210000 * rs.length
  | [], _ => Nat.le_refl _
  | x :: l, h => by
    have h1 := putR_le (h x (List.mem_cons_self ..))
    have h2 := putsR_le l (fun y hy => h y (List.mem_cons_of_mem _ hy))
    rw [putsR_cons, List.length_append, List.length_cons]
    omega
/-- The three slices that 'made' gives, and the records' events. -/
def mdL (ms : List RecM) (rs : List Rec) (ao : Option Addr) (co : Nat) (ab : Option Addr) (cb : Nat) (aa : Option Addr) (ca : Nat) : List It :=
  [own 43 9 ao ms.length co (rmsC ms), own 5 1 ab (putsR rs).length cb (u8s (putsR rs)), own 3 1 aa rs.length ca (offs rs rs.length), evi ms]
theorem K.Mem.castm {w0 w : World} {F0 : Nat → Prop} {T1 T2 T3 : TypeId} {s1' s2 s3 n1 n1' n2 n2' n3 n3' c1 c2 c3 : Nat} {a1 a2 a3 : Option Addr} {x1 x1' x2 x2' x3 x3' : List Value} {I : It} (h : Mem w0 F0 w [own T1 s1' a1 n1 c1 x1, own T2 s2 a2 n2 c2 x2, own T3 s3 a3 n3 c3 x3, I])
    (e1 : n1 = n1') (e2 : n2 = n2') (e3 : n3 = n3') (f1 : x1 = x1') (f2 : x2 = x2') (f3 : x3 = x3') : Mem w0 F0 w [own T1 s1' a1 n1' c1 x1', own T2 s2 a2 n2' c2 x2', own T3 s3 a3 n3' c3 x3', I] := by subst e1; subst e2; subst e3; subst f1; subst f2; subst f3; exact h
theorem c_made (l : List RecM) (hin : ∀ m ∈ l, RecIn m.1) (v : Value) (w : World) (hs : Slr w v l) : Cl Try.prog 39 #[v] w
    (fun r w' => ∃ (ms : List RecM) (ao : Option Addr) (co : Nat) (ab : Option Addr) (cb : Nat) (aa : Option Addr) (ca : Nat), ms.map (·.1) = madeR l 10 ∧ r = .tuple #[.slice ao ms.length co, .slice ab (putsR (madeR l 10)).length cb, .slice aa (madeR l 10).length ca] ∧ Mem w No w' (mdL ms (madeR l 10) ao co ab cb aa ca)) := by
  obtain ⟨a, c, rfl, H, He⟩ := hs
  refine f_enter (args := [_]) Try.func39 rfl rfl ?_
  have mm := Mem.nil No w
  refine c_sreg rfl ?_
  refine s1 (r_ass rfl) ?_
  refine s1 (r_ass rfl) ?_
  refine s1 (r_ass rfl) ?_
  refine wn ?_
  refine c_sreg rfl ?_
  refine so (o_bs0 mm fun a2 c2 w2 mm => ?_)
  refine s1 (r_ass rfl) ?_
  refine wn ?_
  refine c_sreg rfl ?_
  refine so (o_bs0 mm fun a3 c3 w3 mm => ?_)
  refine s1 (r_ass rfl) ?_
  refine wn ?_
  refine c_sreg rfl ?_
  refine so (o_bs0 mm fun a4 c4 w4 mm => ?_)
  refine s1 (r_ass rfl) ?_
  refine wn ?_
  refine c_seq ?_
  refine c_sreg rfl ?_
  refine s1 (r_asi rfl) ?_
  refine wn ?_
  refine c_block ?_
  refine c_loop (fun k e w' => ∃ (i : Nat) (ms : List RecM) (ao : Option Addr) (co : Nat) (ab : Option Addr) (cb : Nat) (aa : Option Addr) (ca : Nat), k + i = 10 ∧ i ≤ l.length ∧ ms.map (·.1) = madeR l i ∧ e 0 = .slice a l.length c ∧ e 5 = .slice ao ms.length co ∧ e 6 = .slice ab (putsR (madeR l i)).length cb ∧ e 7 = .slice aa (madeR l i).length ca ∧ e 8 = .int .i64 (i : Nat) ∧ Mem w No w' (mdL ms (madeR l i) ao co ab cb aa ca)) 10 ?_ ?_
  · exact ⟨0, [], _, _, _, _, _, _, rfl, Nat.zero_le _, rfl, rfl, rfl, rfl, rfl, rfl, mm.evi0⟩
  clear mm
  rintro k e w9 ⟨i, ms, ao, co, ab, cb, aa, ca, hki, hil, hms, h0, h5, h6, h7, h8, mm⟩
  have hml := madeR_len l i hil
  have hmsl : ms.length = i := by have := congrArg List.length hms; rw [List.length_map, hml] at this; exact this
  have hpl := putsR_le (madeR l i) (madeR_ok l i)
  refine c_seq ?_
  refine c_sreg rfl ?_
  refine s1 (r_mvi h8) ?_
  refine s1 (r_mvs h0) ?_
  refine s1 (r_len rfl) ?_
  refine s1 (r_lt rfl rfl) ?_
  refine s1 (r_mvb rfl) ?_
  refine sT rfl rfl (fun h => r_mvi h8) ?_
  refine sT rfl rfl (fun h => r_lt (sel_t h :) rfl) ?_
  refine s1 (r_and rfl rfl) ?_
  refine wn ?_
  refine c_cond rfl (fun h => (c_skip (t_n ?_))) (fun h => (c_exit (t_x (t_x (b_x (t_n ?_))))))
  · have hi : i < l.length ∧ i < 10 := by simp at h; omega
    clear h
    have ok := fitRec_ok l[i].1
    have hpx := putR_le ok
    have hsucc := madeR_succ l i hi.1
    refine c_seq ?_
    refine c_block ?_
    refine c_sreg rfl ?_
    refine s1 (r_mvs h0) ?_
    refine s1 (r_mvi h8) ?_
    refine s1 (r_ix rfl rfl (by omega) (by omega) (rms_some H hi.1)) ?_
    refine s1 (r_ldce rfl (mm.ro H) (rms_seg l i hi.1) (rms_le l i hi.1) (by decide)) ?_
    refine so (o_c1 rfl (c_fit18 l[i].1 _ (mm.ro (He _ (List.getElem_mem hi.1))) (hin _ (List.getElem_mem hi.1))) ?_)
    rintro _ w5 ⟨a5, c5, rfl, hc, hn⟩
    have mm := mm.new hc hn
    refine so (o_al mm fun b6 w6 mm => ?_)
    refine ss (o_sta mm 5 rfl rfl rfl rfl rfl (Nat.le_of_ble_eq_true rfl) fun w7 mm => ?_)
    refine wn ?_
    generalize hx : fitRec l[i].1 = x at *
    refine c_sreg rfl ?_
    refine s1 (r_lda rfl (mm.b 5 rfl) rfl) ?_
    refine so (o_c1 rfl (c_put18 x ok _ (mm.c 4 rfl)) ?_)
    rintro _ w8 ⟨a8, c8, rfl, hc, hn⟩
    have mm := mm.new hc hn
    refine s1 (r_mvu rfl) ?_
    refine s1 (r_exts rfl rfl) ?_
    refine s1 (r_exti rfl rfl) ?_
    refine s1 (r_ass rfl) ?_
    refine s1 (r_asi rfl) ?_
    refine wn ?_
    refine c_sreg rfl ?_
    refine s1 (r_mvs h5) ?_
    refine s1 (r_lda rfl (mm.b 5 rfl) rfl) ?_
    refine so (o_bg mm (bg rfl bN) rfl rfl (by decide) (by decide) (by decide) fun a9 c9 w9 mm => ?_)
    refine so (o_ap mm 0 rfl rfl rfl (src_own mm 7 rfl rfl) (by omega) (by unfold maxLen; omega) fun a10 c10 w10 mm => ?_)
    refine s1 (r_ass rfl) ?_
    refine wn ?_
    refine c_sreg rfl ?_
    refine s1 (r_mvs h7) ?_
    refine s1 (r_mvs h6) ?_
    refine s1 (r_len rfl) ?_
    refine so (o_bi1 mm rfl fun a11 c11 w11 mm => ?_)
    refine so (o_ap mm 2 rfl rfl rfl (src_own mm 8 rfl rfl) (by omega) (by unfold maxLen; omega) fun a12 c12 w12 mm => ?_)
    refine s1 (r_ass rfl) ?_
    refine wn ?_
    refine c_region rfl ?_
    refine s1 (r_mvs h6) ?_
    refine s1 (r_mvs rfl) ?_
    refine so (o_ap mm 1 rfl rfl rfl (src_own mm 6 rfl (ones_u8s _)) (by omega) (by unfold maxLen; omega) fun a13 c13 w13 mm => ?_)
    refine s1 (r_ass rfl) ?_
    refine wn (b_n (t_n ?_))
    have hp2 : putsR (madeR l (i + 1)) = putsR (madeR l i) ++ putR x := by rw [hsucc, putsR_append, putsR_cons]; simp [putsR]
    have hm2 : (madeR l (i + 1)).length = (madeR l i).length + 1 := by rw [hsucc, List.length_append]; rfl
    have hl2 : (putsR (madeR l (i + 1))).length = (putsR (madeR l i)).length + (putR x).length := by rw [hp2, List.length_append]
    have ho2 : offs (madeR l (i + 1)) (madeR l (i + 1)).length = offs (madeR l i) (madeR l i).length ++ [Value.int .i64 ((putsR (madeR l i)).length : Nat)] := by
      rw [hm2, offs_succ, hsucc, List.take_left]
      congr 1
      exact offs_congr (by rw [List.take_left, List.take_length])
    have mm := (mm.fuseE 3 4 (x := x) rfl rfl (by decide)).pk [0, 1, 2, 3] (by decide)
    have mm := mm.castm (n1' := (ms ++ [(x, a5, c5)]).length) (n2' := (putsR (madeR l (i + 1))).length) (n3' := (madeR l (i + 1)).length) (x1' := rmsC (ms ++ [(x, a5, c5)])) (x2' := u8s (putsR (madeR l (i + 1)))) (x3' := offs (madeR l (i + 1)) (madeR l (i + 1)).length)
      (by rw [List.length_append]; first | done | rfl) hl2.symm hm2.symm (by rw [rmsC_append]; rfl) (by rw [hp2, u8s_append]) (by rw [ho2])
    refine c_region rfl ?_
    refine s1 (r_mvi h8) ?_
    refine s1 (r_add rfl rfl (wi (by omega) (by omega))) ?_
    refine s1 (r_asi rfl) ?_
    refine wn (t_n ?_)
    refine ⟨k - 1, by omega, i + 1, ms ++ [(x, a5, c5)], _, _, _, _, _, _, by omega, by omega, by rw [List.map_append, hms, hsucc]; first | done | rfl, h0, ?_, ?_, ?_, rfl, mm⟩
    · rw [List.length_append]; rfl
    · rw [hl2]; rfl
    · rw [hm2]; rfl
  have hi : madeR l i = madeR l 10 := by
    have h9 : i = l.length ∨ i = 10 := by simp at h; omega
    rcases h9 with h9 | h9
    · unfold madeR
      rw [h9, List.take_length, List.take_of_length_le (by omega)]
    · rw [h9]
  rw [hi] at mm hms h6 h7
  clear h
  refine c_sreg rfl ?_
  refine s1 (r_mvs h5) ?_
  refine s1 (r_mvs h6) ?_
  refine s1 (r_mvs h7) ?_
  refine s1 (r_ass rfl) ?_
  refine s1 (r_ass rfl) ?_
  refine s1 (r_ass rfl) ?_
  refine wn ?_
  exact c_ret (ret3 rfl rfl rfl rfl ⟨ms, _, _, _, _, _, _, hms, rfl, mm⟩)
end Go.Proofs.Ytgdbbaggkoillaa

