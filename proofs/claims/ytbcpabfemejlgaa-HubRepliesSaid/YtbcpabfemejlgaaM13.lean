/- post.Post's is, cut: the layout, and walks. -/
import Derived.Test.YtbcpabfemejlgaaM12
namespace Go.Proofs.Ytbcpabfemejlgaa
open K
set_option maxRecDepth 100000
set_option maxHeartbeats 4000000

/-- Where a shelf lies: its block, its row's address and room. -/
abbrev ShA := Nat × Option Addr × Nat
structure PL where
  q : Nat
  asl : Option Addr
  csl : Nat
  aak : Option Addr
  cak : Nat
  sl : List ShA
def sa0 : ShA := (0, none, 0)
def ptrsC (sl : List ShA) : List Value := sl.map fun x => .pointer (some ⟨x.1, 0, none⟩)
def acksC (l : List Clk) : List Value := l.flatMap clkC
def shIs (W : Int) : List ShA → List Sh → List It
  | x :: sl, s :: ss => shI W x.1 x.2.1 x.2.2 s :: shIs W sl ss
  | _, _ => []
def poB (y : PL) (p : Po) : List Value := [.slice y.asl p.shs.length y.csl, .slice y.aak p.acks.length y.cak]
def poI4 (W : Int) (y : PL) (p : Po) : List It := [bk y.q (poB y p) 93, own 94 1 y.asl p.shs.length y.csl (ptrsC y.sl), own 31 5 y.aak p.acks.length y.cak (acksC p.acks), listI (shIs W y.sl p.shs)]
def poI (W : Int) (y : PL) (p : Po) : It := listI (poI4 W y p)

theorem shIs_nth (W : Int) : ∀ (sl : List ShA) (ss : List Sh) (i : Nat), i < sl.length → i < ss.length → nth (shIs W sl ss) i = some (shI W (sl.getD i sa0).1 (sl.getD i sa0).2.1 (sl.getD i sa0).2.2 (ss.getD i sh0))
  | x :: sl, s :: ss, 0, _, _ => rfl
  | x :: sl, s :: ss, i + 1, h, h' => shIs_nth W sl ss i (by simpa using h) (by simpa using h')
  | [], _, _, h, _ => by simp at h
  | _ :: _, [], _, _, h => by simp at h
theorem shIs_set (W : Int) (b : Nat) (a : Option Addr) (c : Nat) (s : Sh) : ∀ (sl : List ShA) (ss : List Sh) (i : Nat), setN (shIs W sl ss) i (shI W b a c s) = shIs W (setN sl i (b, a, c)) (setN ss i s)
  | x :: sl, t :: ss, 0 => rfl
  | x :: sl, t :: ss, i + 1 => by show shI _ _ _ _ _ :: setN (shIs W sl ss) i _ = _; rw [shIs_set W b a c s sl ss i]; rfl
  | [], _, _ => rfl
  | x :: sl, [], 0 => rfl
  | x :: sl, [], i + 1 => rfl
theorem ptrs_nth (sl : List ShA) (i : Nat) (h : i < sl.length) : nth (ptrsC sl) (((i : Nat) : Int).toNat * 1) = some (.pointer (some ⟨(sl.getD i sa0).1, 0, none⟩)) := by
  rw [nth_eq, Nat.mul_one]
  simp [ptrsC, List.getD, h]
theorem ptrs_set : ∀ (sl : List ShA) (i : Nat) (a : Option Addr) (c : Nat), ptrsC (setN sl i ((sl.getD i sa0).1, a, c)) = ptrsC sl
  | [], _, _, _ => rfl
  | x :: sl, 0, _, _ => rfl
  | x :: sl, i + 1, a, c => by
    show Value.pointer _ :: ptrsC (setN sl i ((sl.getD i sa0).1, a, c)) = _
    rw [ptrs_set sl i a c]; rfl
theorem acksC_length : ∀ l : List Clk, (acksC l).length = l.length * 5
  | [] => rfl
  | c :: l => by
    show (clkC c ++ acksC l).length = _
    rw [List.length_append, acksC_length l, List.length_cons]
    show 5 + _ = _; omega
theorem acks_seg0 : ∀ (l : List Clk) (i : Nat), i < l.length → seg (acksC l) (i * 5) 5 = clkC (l.getD i clk0)
  | [], _, h => by simp at h
  | c :: l, 0, _ => rfl
  | c :: l, i + 1, h => by
    show seg (clkC c ++ acksC l) ((i + 1) * 5) 5 = clkC (l.getD i clk0)
    rw [← acks_seg0 l i (by simpa using h)]
    unfold seg
    have e : (i + 1) * 5 = (clkC c).length + i * 5 := by show _ = 5 + _; omega
    rw [e, ← List.drop_drop, List.drop_left]
theorem acks_seg (l : List Clk) (i : Nat) (h : i < l.length) : seg (acksC l) (((i : Nat) : Int).toNat * 5) 5 = clkC (l.getD i clk0) := acks_seg0 l i h
theorem acks_le (l : List Clk) (i : Nat) (h : i < l.length) : ((i : Nat) : Int).toNat * 5 + 5 ≤ (acksC l).length := by rw [acksC_length]; show i * 5 + 5 ≤ _; omega
theorem acks_nth (l : List Clk) (i : Nat) (h : i < l.length) (s : Nat) (hs : s < 5) : nth (acksC l) (((i : Nat) : Int).toNat * 5 + ((s : Nat) : Int).toNat * 1) = some (.int .i64 ((l.getD i clk0).get s)) := by
  have h1 := nth_clk (l.getD i clk0) s hs
  rw [← acks_seg l i h] at h1
  have h2 := nth_seg _ _ 5 s _ h1
  have : ((s : Nat) : Int).toNat * 1 = s := by omega
  rw [this]; exact h2
theorem acks_some {w : World} {a : Option Addr} {l : List Clk} (H : Cells w a (acksC l)) {i : Nat} (h : i < l.length) : a.isSome = true := H.some (acks_nth l i h 0 (by decide))
theorem ones_acks : ∀ l : List Clk, ones (acksC l) = true
  | [] => rfl
  | c :: l => ones_append (a := clkC c) rfl (ones_acks l)
theorem acks_splice : ∀ (l : List Clk) (i : Nat) (c : Clk), i < l.length → splice (acksC l) (i * 5) (clkC c) = acksC (setN l i c)
  | [], _, _, h => by simp at h
  | d :: l, 0, c, _ => by
    show splice (clkC d ++ acksC l) 0 (clkC c) = clkC c ++ acksC l
    unfold splice
    have e : 0 + (clkC c).length = (clkC d).length := rfl
    rw [e, List.drop_left]; rfl
  | d :: l, i + 1, c, h => by
    show splice (clkC d ++ acksC l) ((i + 1) * 5) (clkC c) = clkC d ++ acksC (setN l i c)
    rw [← acks_splice l i c (by simpa using h)]
    unfold splice
    have e : (i + 1) * 5 = (clkC d).length + i * 5 := by show _ = 5 + _; omega
    have e2 : (clkC d).length + i * 5 + (clkC c).length = (clkC d).length + (i * 5 + (clkC c).length) := by omega
    rw [e, e2, List.take_length_add_append, ← List.drop_drop, List.drop_left, List.append_assoc, List.append_assoc]
    rw [List.append_assoc]

theorem c_poIs (y : PL) (p : Po) (r : Int) (w : World) (hb : w.heap[y.q]? = some (.cells (poB y p).toArray 93 (0, 0))) :
    Cl Try.prog 60 #[.pointer (some ⟨y.q, 0, none⟩), .int .i64 r] w (fun v w' => v = .bool (poIs p r) ∧ Chg No w w') := by
  have hlt := (Array.getElem?_eq_some_iff.1 hb).1
  have hB : ∀ {w' : World} {L : List It}, Mem w No w' L → w'.heap[y.q]? = some (.cells (poB y p).toArray 93 (0, 0)) := fun m => (m.chg.same y.q hlt (fun h => h)).trans hb
  refine f_enter (args := [_, _]) Try.func60 rfl rfl ?_
  have mm := Mem.nil No w
  refine c_sreg rfl ?_
  refine s1 (r_asb rfl) ?_
  refine wn ?_
  refine c_sreg rfl ?_
  refine s1 (r_mvi rfl) ?_
  refine s1 (r_ge rfl rfl) ?_
  refine s1 (r_mvb rfl) ?_
  refine sT rfl rfl (fun h => r_mvi rfl) ?_
  refine sT rfl rfl (fun h => r_mvp rfl) ?_
  refine sT rfl rfl (fun h => r_nil (sel_t h :)) ?_
  refine sT rfl rfl (fun h => r_fa (sel_t h :)) ?_
  refine sT rfl rfl (fun h => r_ld (sel_t h :) ((hB) mm) rfl) ?_
  refine sT rfl rfl (fun h => r_len (sel_t h :)) ?_
  refine sT rfl rfl (fun h => r_lt (sel_t h :) (sel_t h :)) ?_
  refine s1 (r_and rfl rfl) ?_
  refine s1 (r_asb rfl) ?_
  refine wn ?_
  exact c_ret (ret1 rfl rfl ⟨rfl, mm.chg⟩)
theorem c_poP1 (x : Ev) (n : Int) (b : Nat) (w : World) (hb : w.heap[b]? = some (.cells [Value.int .i64 n].toArray 3 (0, 0))) :
    Cl Try.prog 62 #[.agg (evC x).toArray, .pointer (some ⟨b, 0, none⟩)] w (fun r w' => r = .bool (decide (x.r ≠ n)) ∧ Chg No w w') := by
  have hlt := (Array.getElem?_eq_some_iff.1 hb).1
  have hB : ∀ {w' : World} {L : List It}, Mem w No w' L → w'.heap[b]? = some (.cells [Value.int .i64 n].toArray 3 (0, 0)) := fun m => (m.chg.same b hlt (fun h => h)).trans hb
  refine f_enter (args := [_, _]) Try.func62 rfl rfl ?_
  have mm := Mem.nil No w
  refine c_sreg rfl ?_
  refine so (o_bxa mm rfl fun b2 w2 mm => ?_)
  refine s1 (r_asb rfl) ?_
  refine wn ?_
  have mm : Mem w No _ [bk b2 (evC x) 67] := mm
  refine c_sreg rfl ?_
  refine s1 (r_fa rfl) ?_
  refine s1 (r_ld rfl (mm.b 0 rfl) rfl) ?_
  refine s1 (r_ld rfl ((hB) mm) rfl) ?_
  refine s1 (r_ne rfl rfl) ?_
  refine s1 (r_asb rfl) ?_
  refine wn ?_
  exact c_ret (ret1 rfl rfl ⟨rfl, mm.chg⟩)
def leastTo (acks : List Clk) (s : Nat) (k : Nat) : Int := (acks.take k).foldl (fun m a => min m (a.get s)) ((acks.getD 0 clk0).get s)
theorem leastTo_succ (acks : List Clk) (s k : Nat) (h : k < acks.length) : leastTo acks s (k + 1) = min (leastTo acks s k) ((acks.getD k clk0).get s) := by
  unfold leastTo
  rw [List.take_succ_eq_append_getElem h, List.foldl_append]
  simp [List.getD, h]
theorem leastTo_all (acks : List Clk) (s : Nat) : leastTo acks s acks.length = least acks s := by unfold leastTo least; rw [List.take_length]
theorem c_poCut {N : Nat} {W : Int} (y : PL) (p : Po) (s : Nat) (n1 : 1 ≤ N) (n5 : N ≤ 5) (w4 : W ≤ 4) (hs : s < N) (hsh : p.shs.length = N) (hac : p.acks.length = N) (oks : ShOk W (p.sh s)) (hlt : 0 ≤ least p.acks s ∧ least p.acks s ≤ 1048576) (w : World) (hI : (poI W y p).holds w) :
    Cl Try.prog 64 #[.pointer (some ⟨y.q, 0, none⟩), .int .i64 (s : Nat)] w
      (fun r w' => ∃ sl', r = .tuple #[] ∧ Mem w (poI W y p).foot w' [poI W { y with sl := sl' } (poCutAt p s)]) := by
  have mm : Mem w (poI W y p).foot w (poI4 W y p) := (Mem.one hI).open
  have fin : ∀ {w' : World} {y' : PL} {p' : Po}, Mem w (poI W y p).foot w' (poI4 W y' p') → Mem w (poI W y p).foot w' [poI W y' p'] := fun m => m.close
  generalize hF0 : (poI W y p).foot = F0 at mm fin
  have hsll : y.sl.length = N := by have := own_len (mm.o 1 rfl); rw [Nat.mul_one, hsh] at this; rw [← this]; simp [ptrsC]
  refine f_enter (args := [_, _]) Try.func64 rfl rfl ?_
  have mm : Mem w F0 w [bk y.q (poB y p) 93, own 94 1 y.asl p.shs.length y.csl (ptrsC y.sl), own 31 5 y.aak p.acks.length y.cak (acksC p.acks), listI (shIs W y.sl p.shs)] := mm
  refine c_sreg rfl ?_
  refine s1 (r_mvp rfl) ?_
  refine s1 (r_nil rfl) ?_
  refine s1 (r_fa rfl) ?_
  refine s1 (r_ld rfl (mm.b 0 rfl) rfl) ?_
  refine s1 (r_mvi rfl) ?_
  refine s1 (r_ix rfl rfl (by omega) (by omega) (acks_some (i := 0) (mm.c 2 rfl) (by omega))) ?_
  refine s1 (r_ixac rfl rfl (by omega) (by omega) (acks_some (i := 0) (mm.c 2 rfl) (by omega))) ?_
  refine s1 (r_ldc rfl (mm.c 2 rfl) (acks_nth p.acks 0 (by omega) s (by omega))) ?_
  refine s1 (r_asi rfl) ?_
  refine wn ?_
  refine c_seq ?_
  refine c_sreg rfl ?_
  refine s1 (r_mvp rfl) ?_
  refine s1 (r_nil rfl) ?_
  refine s1 (r_fa rfl) ?_
  refine s1 (r_ld rfl (mm.b 0 rfl) rfl) ?_
  refine s1 (r_len rfl) ?_
  refine s1 (r_mvi rfl) ?_
  refine wn ?_
  refine c_block ?_
  refine c_loop (fun kk e w' => ∃ i : Nat, kk + i = N ∧ e 0 = .pointer (some ⟨y.q, 0, none⟩) ∧ e 1 = .int .i64 (s : Nat) ∧ e 4 = .int .i64 (leastTo p.acks s i) ∧ e 18 = .slice y.aak p.acks.length y.cak ∧ e 19 = .int .i64 (p.acks.length : Nat) ∧ e 20 = .int .i64 (i : Nat) ∧ Mem w F0 w' [bk y.q (poB y p) 93, own 94 1 y.asl p.shs.length y.csl (ptrsC y.sl), own 31 5 y.aak p.acks.length y.cak (acksC p.acks), listI (shIs W y.sl p.shs)]) N ?_ ?_
  · exact ⟨0, rfl, rfl, rfl, rfl, rfl, rfl, rfl, mm⟩
  clear mm
  rintro kk e w9 ⟨i, hki, h0, h1, h4, h18, h19, h20, mm⟩
  refine c_sreg rfl ?_
  refine s1 (r_lt h20 h19) ?_
  refine wn ?_
  refine c_seq ?_
  refine c_cond rfl (fun h => (c_skip (t_n ?_))) (fun h => (c_exit (t_x (t_x (b_x (t_n ?_))))))
  · have hi : i < p.acks.length := by simp at h; omega
    clear h
    refine c_seq ?_
    refine c_block ?_
    refine c_sreg rfl ?_
    refine s1 (r_ix h18 h20 (by omega) (by omega) (acks_some (mm.c 2 rfl) hi)) ?_
    refine s1 (r_ldce rfl (mm.c 2 rfl) (acks_seg p.acks i hi) (acks_le p.acks i hi) (by decide)) ?_
    refine so (o_al mm fun b2 w2 mm => ?_)
    refine ss (o_sta mm 4 rfl rfl rfl rfl rfl (Nat.le_of_ble_eq_true rfl) fun w3 mm => ?_)
    refine wn ?_
    have mm : Mem w F0 _ [bk y.q (poB y p) 93, own 94 1 y.asl p.shs.length y.csl (ptrsC y.sl), own 31 5 y.aak p.acks.length y.cak (acksC p.acks), listI (shIs W y.sl p.shs), bk b2 (clkC (p.acks.getD i clk0)) 31] := mm
    refine c_region rfl ?_
    refine s1 (r_mvi h4) ?_
    refine s1 (r_mvi h1) ?_
    refine s1 (r_ixa rfl rfl (by omega) (by omega)) ?_
    refine s1 (r_ld rfl (mm.b 4 rfl) (by simp only [Nat.mul_one, Nat.zero_add]; exact nth_clk _ s (by omega))) ?_
    refine s1 (r_min2 rfl rfl) ?_
    refine s1 (r_asi rfl) ?_
    refine wn (b_n (t_n ?_))
    refine c_region rfl ?_
    refine s1 (r_add h20 rfl (wi (by omega) (by omega))) ?_
    refine s1 (r_mvi rfl) ?_
    refine wn (t_n ?_)
    refine ⟨kk - 1, by omega, i + 1, by omega, h0, h1, ?_, h18, h19, rfl, mm.pk [0, 1, 2, 3] (by decide)⟩
    rw [leastTo_succ _ _ _ hi]; rfl
  have hi : i = p.acks.length := by simp at h; omega
  subst hi
  clear h
  rw [leastTo_all] at h4
  obtain ⟨x, hx⟩ : ∃ x, x = y.sl.getD s sa0 := ⟨_, rfl⟩
  have hn := shIs_nth W y.sl p.shs s (by omega) (by omega)
  rw [← hx] at hn
  refine c_region rfl ?_
  refine s1 (r_mvp h0) ?_
  refine s1 (r_nil rfl) ?_
  refine s1 (r_fa rfl) ?_
  refine s1 (r_ld rfl (mm.b 0 rfl) rfl) ?_
  refine s1 (r_mvi h1) ?_
  refine s1 (r_ix rfl rfl (by omega) (by omega) ((mm.c 1 rfl).some (ptrs_nth y.sl s (by omega)))) ?_
  refine s1 (r_ldc rfl (mm.c 1 rfl) (ptrs_nth y.sl s (by omega))) ?_
  refine s1 (r_mvi h4) ?_
  refine so (o_c2 (show _ = Value.pointer (some ⟨x.1, 0, none⟩) by rw [hx]; rfl) rfl (c_shCut W w4 (p.sh s) oks x.1 x.2.1 x.2.2 (least p.acks s) hlt.1 hlt.2 _ (mm.at 3 rfl s hn)) ?_)
  rintro _ w4 ⟨a', c', rfl, hm⟩
  have mm := mm.liftIn 3 rfl s hn hm
  refine wn (body_n ?_)
  have mm := mm.castL (L' := poI4 W { y with sl := setN y.sl s (x.1, a', c') } (poCutAt p s)) (by
    show [_, _, _, _] = [_, _, _, _]
    have e1 : ptrsC (setN y.sl s (x.1, a', c')) = ptrsC y.sl := by rw [hx]; exact ptrs_set y.sl s a' c'
    have e2 : (poCutAt p s).shs.length = p.shs.length := setN_length _ _ _
    have e3 : poB { y with sl := setN y.sl s (x.1, a', c') } (poCutAt p s) = poB y p := by unfold poB; rw [e2]; rfl
    show [bk y.q (poB y p) 93, own 94 1 y.asl p.shs.length y.csl (ptrsC y.sl), own 31 5 y.aak p.acks.length y.cak (acksC p.acks), listI (setN (shIs W y.sl p.shs) s _)] = [bk y.q (poB { y with sl := setN y.sl s (x.1, a', c') } (poCutAt p s)) 93, own 94 1 y.asl (poCutAt p s).shs.length y.csl (ptrsC (setN y.sl s (x.1, a', c'))), _, _]
    rw [e1, e2, e3, shIs_set]
    rfl)
  exact ret0 rfl ⟨_, rfl, fin mm⟩
end Go.Proofs.Ytbcpabfemejlgaa
/- post.Post's Push: the walk. -/
namespace Go.Proofs.Ytbcpabfemejlgaa
open K
set_option maxRecDepth 100000
set_option maxHeartbeats 4000000

theorem shI_b {W : Int} {b c : Nat} {a : Option Addr} {s : Sh} {w : World} (h : (shI W b a c s).holds w) : w.heap[b]? = some (.cells (shB W s a c).toArray 122 (0, 0)) := (Mem.one h).open.b 0 rfl
theorem shI_c {W : Int} {b c : Nat} {a : Option Addr} {s : Sh} {w : World} (h : (shI W b a c s).holds w) : Cells w a (evsC s.l) := (Mem.one h).open.c 1 rfl
theorem shI_cap {W : Int} {b c : Nat} {a : Option Addr} {s : Sh} {w : World} (h : (shI W b a c s).holds w) : s.l.length ≤ c := own_le ((Mem.one h).open.o 1 rfl)
/-- A shelf turned, in the post's items. -/
theorem poI4_set {W : Int} {y : PL} {p : Po} {s : Nat} {a : Option Addr} {c : Nat} {s1 : Sh} {b : Nat} (hb : b = (y.sl.getD s sa0).1) :
    [bk y.q (poB y p) 93, own 94 1 y.asl p.shs.length y.csl (ptrsC y.sl), own 31 5 y.aak p.acks.length y.cak (acksC p.acks), listI (setN (shIs W y.sl p.shs) s (shI W b a c s1))] = poI4 W { y with sl := setN y.sl s (b, a, c) } { p with shs := setN p.shs s s1 } := by
  have e1 : ptrsC (setN y.sl s (b, a, c)) = ptrsC y.sl := by rw [hb]; exact ptrs_set y.sl s a c
  have e2 : (setN p.shs s s1).length = p.shs.length := setN_length _ _ _
  have e3 : poB { y with sl := setN y.sl s (b, a, c) } { p with shs := setN p.shs s s1 } = poB y p := by unfold poB; simp only [e2]
  show _ = [bk y.q (poB { y with sl := setN y.sl s (b, a, c) } { p with shs := setN p.shs s s1 }) 93, own 94 1 y.asl (setN p.shs s s1).length y.csl (ptrsC (setN y.sl s (b, a, c))), own 31 5 y.aak p.acks.length y.cak (acksC p.acks), listI (shIs W (setN y.sl s (b, a, c)) (setN p.shs s s1))]
  rw [e1, e2, e3, shIs_set]
theorem poI4_nil {W : Int} {y : PL} {p : Po} {w0 w : World} {F0 : Nat → Prop} {L : List It} (m : Mem w0 F0 w (poI4 W y p ++ L)) : y.sl.length = p.shs.length := by
  have := own_len (m.o 1 rfl); rw [Nat.mul_one] at this; rw [← this]; simp [ptrsC]
theorem c_poPush {N : Nat} {W : Int} (y : PL) (p : Po) (ok : PoOk N W p) (r : Int) (l : List Ev) (hl : l.length ≤ 1000) (hln : ∀ y ∈ l, 1 ≤ y.n ∧ y.n ≤ 1048576) (al : Option Addr) (cl : Nat) (hcl : l.length ≤ cl) (w : World) (hI : (poI W y p).holds w) (HS : Stab (poI W y p) w (fun w' => Cells w' al (evsC l))) :
    Cl Try.prog 37 #[.pointer (some ⟨y.q, 0, none⟩), .int .i64 r, .slice al l.length cl] w
      (fun v w' => ∃ sl', v = .tuple #[.int .i64 (poPush W p r l).2.1, .int .i64 (poPush W p r l).2.2] ∧ Mem w (poI W y p).foot w' [poI W { y with sl := sl' } (poPush W p r l).1]) := by
  have mm : Mem w (poI W y p).foot w (poI4 W y p) := (Mem.one hI).open
  have HS : ∀ w', Chg (poI W y p).foot w w' → Cells w' al (evsC l) := HS
  generalize hF0 : (poI W y p).foot = F0 at mm HS
  have hsll : y.sl.length = p.shs.length := poI4_nil (L := []) mm
  have hsh := ok.shs; have hac := ok.acks; have n1 := ok.n1; have n5 := ok.n5; have hW4 := ok.w4
  refine f_enter (args := [_, _, _]) Try.func37 rfl rfl ?_
  refine c_sreg rfl ?_
  refine so (o_bx mm rfl rfl fun b2 w2 mm => ?_)
  refine s1 (r_asi rfl) ?_
  refine s1 (r_asi rfl) ?_
  refine wn ?_
  have mm : Mem w F0 _ [bk y.q (poB y p) 93, own 94 1 y.asl p.shs.length y.csl (ptrsC y.sl), own 31 5 y.aak p.acks.length y.cak (acksC p.acks), listI (shIs W y.sl p.shs), bk b2 [Value.int .i64 r] 3] := mm
  refine c_seq ?_
  refine c_sreg rfl ?_
  refine s1 (r_mvp rfl) ?_
  refine s1 (r_ld rfl (mm.b 4 rfl) rfl) ?_
  refine so (o_c2 rfl rfl (c_poIs y p r _ (mm.b 0 rfl)) ?_)
  rintro _ w3 ⟨rfl, hc⟩
  have mm := mm.frame hc
  refine s1 (r_not rfl) ?_
  refine s1 (r_mvb rfl) ?_
  refine sF rfl rfl (fun h => r_mvs rfl) ?_
  refine sF rfl rfl (fun h => r_fn1 rfl) ?_
  refine sFw (I := Sof mm) rfl rfl mm (fun h => o_c2 (sel_t h :) (sel_t h :) (c_containsF l (by omega) _ _ _ (HS _ mm.chg) (fun w' hc x ↦ c_poP1 x r b2 w' ((mm.frame hc).b 4 rfl))) (fun _ _ hh => ⟨hh.1, mm.frame hh.2⟩)) (fun w4 mm => ?_)
  refine s1 (r_or rfl rfl) ?_
  refine wn ?_
  refine c_cond rfl (fun h => ?_) (fun h => (c_skip (t_n ?_)))
  · have e1 : poPush W p r l = (p, 0, 23) := by unfold poPush; rw [if_pos h]
    refine c_sreg rfl ?_
    refine s1 (r_asi rfl) ?_
    refine s1 (r_asi rfl) ?_
    refine wn ?_
    rw [e1]
    have mm : Mem w F0 _ (poI4 W y p) := mm.pk [0, 1, 2, 3] (by decide)
    exact c_ret (ret2 rfl rfl rfl ⟨y.sl, rfl, mm.close⟩)
  have hno : ¬ (!poIs p r || l.any fun e => decide (e.r ≠ r)) = true := by
    intro hh
    have h : (!poIs p r || l.any fun e => decide (e.r ≠ r)) = false := h
    rw [hh] at h; cases h
  clear h
  have hr : 0 ≤ r ∧ r < N := by
    rw [← poIs_iff ok]
    cases hh : poIs p r with
    | true => rfl
    | false => rw [hh] at hno; exact absurd rfl hno
  obtain ⟨s, rfl⟩ := Int.eq_ofNat_of_zero_le hr.1
  have hs : s < N := by omega
  have hst : ((s : Nat) : Int).toNat = s := rfl
  have hpush : poPush W p ((s : Nat) : Int) l = if (shPut W (p.sh s) l).2 ≠ 0 then (p, 0, (shPut W (p.sh s) l).2)
      else (poCutAt { p with shs := setN p.shs s (shPut W (p.sh s) l).1 } s, ((poCutAt { p with shs := setN p.shs s (shPut W (p.sh s) l).1 } s).sh s).len, 0) := by
    unfold poPush
    rw [if_neg hno]
    rfl
  clear hno
  rw [hpush]
  clear hpush
  have oks := shPut_ok (ok.sh s hs) fun e he => (hln e he).2
  have herr := shPut_err (W := W) (s := p.sh s) (l := l)
  obtain ⟨x, hx⟩ : ∃ x, x = y.sl.getD s sa0 := ⟨_, rfl⟩
  have hn := shIs_nth W y.sl p.shs s (by omega) (by omega)
  rw [← hx] at hn
  have cP := fun (w' : World) h1 h2 => c_shPut W hW4 (p.sh s) (ok.sh s hs) x.1 x.2.1 x.2.2 l hl hln al cl hcl w' h1 h2
  generalize shPut W (p.sh s) l = qq at cP oks herr ⊢
  obtain ⟨sx, cd⟩ := qq
  refine c_seq ?_
  refine c_sdraw2 mixed [(0, some 0), (1, some 0), (2, some 0), (7, some 0), (3, some 2), (4, some 2), (5, some 0), (6, some 2), (8, none), (9, some 0)] [0, 0, 0, 0, 2, 0, 0, 0, 0, 0] (Sof mm) (Sof mm) (fun _ h => h) (by kernel_rfl) rfl rfl (by kernel_rfl) (fun w5 hc => ?_)
  have mm := mm.frame hc
  refine q01 rfl (fun w => r_mvp rfl) ?_
  refine q01 rfl (fun w => r_nil rfl) ?_
  refine q01 rfl (fun w => r_fa rfl) ?_
  refine q01 rfl (fun w => r_mvs rfl) ?_
  refine qA1 rfl (fun w m => r_ld rfl (m.b 0 rfl) rfl) mm ?_
  refine qA1 rfl (fun w m => r_ld rfl (m.b 4 rfl) rfl) mm ?_
  refine q01 rfl (fun w => r_ix rfl rfl (by omega) (by omega) ((mm.c 1 rfl).some (ptrs_nth y.sl s (by omega)))) ?_
  refine qA1 rfl (fun w m => r_ldc rfl (m.c 1 rfl) (ptrs_nth y.sl s (by omega))) mm ?_
  refine qo rfl (o_c2 (show _ = Value.pointer (some ⟨x.1, 0, none⟩) by rw [hx]; rfl) rfl (cP _ (mm.at 3 rfl s hn) (fun w' hc ↦ HS w' (mm.chgAt 3 rfl s hn hc))) ?_)
  rintro _ w6 ⟨a', c', rfl, hm⟩
  have mm := mm.liftIn 3 rfl s hn hm
  refine ⟨trivial, ?_⟩
  refine q01 rfl (fun w => r_asi rfl) ?_
  refine qn ?_
  have mm := mm.castL (L' := poI4 W { y with sl := setN y.sl s (x.1, a', c') } { p with shs := setN p.shs s sx } ++ [bk b2 [Value.int .i64 ((s : Nat) : Int)] 3]) (by rw [← poI4_set (congrArg Prod.fst hx)]; rfl)
  have mm := mm.closeN
  refine c_sreg rfl ?_
  refine s1 (r_mvi rfl) ?_
  refine s1 (r_ne rfl rfl) ?_
  refine wn ?_
  refine c_cond rfl (fun h => ?_) (fun h => (c_skip (t_n ?_)))
  · have hcd : cd ≠ 0 := by simpa using h
    have hsx : sx = p.sh s := herr hcd
    have e2 : ({ p with shs := setN p.shs s sx } : Po) = p := by
      rw [hsx]
      show (⟨setN p.shs s (p.shs.getD s sh0), p.acks⟩ : Po) = p
      rw [setN_same]
    refine c_sreg rfl ?_
    refine s1 (r_mvi rfl) ?_
    refine s1 (r_asi rfl) ?_
    refine s1 (r_asi rfl) ?_
    refine wn ?_
    rw [e2] at mm
    rw [if_pos hcd]
    have mm := mm.pk [0] (by decide)
    exact c_ret (ret2 rfl rfl rfl ⟨_, rfl, mm⟩)
  have hcd : cd = 0 := by simpa using h
  clear h herr
  rw [if_neg (show ¬ (sx, cd).2 ≠ 0 from fun h => h hcd)]
  obtain ⟨p1, hp1⟩ : ∃ p1 : Po, p1 = { p with shs := setN p.shs s sx } := ⟨_, rfl⟩
  have hp1' : ({ p with shs := setN p.shs s (sx, cd).1 } : Po) = p1 := hp1.symm
  have hsh1 : p1.shs.length = N := by rw [hp1]; show (setN _ _ _).length = N; rw [setN_length, hsh]
  have hac1 : p1.acks.length = N := by rw [hp1]; exact hac
  have hs1 : p1.sh s = sx := by rw [hp1]; show (setN p.shs s sx).getD s sh0 = sx; rw [getD_setN, if_pos ⟨rfl, by omega⟩]
  have hll : 0 ≤ least p1.acks s ∧ least p1.acks s ≤ 1048576 := by rw [hp1]; exact ok.least s (by omega)
  rw [hp1']
  rw [← hp1] at mm
  have oks2 : ShOk W (p1.sh s) := by rw [hs1]; exact oks
  have oks3 := shCut_ok (least p1.acks s) oks2
  have hs2 : (poCutAt p1 s).sh s = shCut (p1.sh s) (least p1.acks s) := by rw [sh_cutAt _ _ _ (by omega), if_pos rfl]
  rw [← hs2] at oks3
  have hcut := fun (w' : World) h => c_poCut { y with sl := setN y.sl s (x.1, a', c') } p1 s n1 n5 hW4 hs hsh1 hac1 oks2 hll w' h
  refine c_sreg rfl ?_
  refine s1 (r_mvp rfl) ?_
  refine s1 (r_ld rfl (mm.b 1 rfl) rfl) ?_
  refine so (o_c2 rfl rfl (hcut _ (mm.h 0 rfl)) ?_)
  rintro _ w7 ⟨sl2, rfl, hm⟩
  have mm := mm.lift1 0 rfl hm
  refine wn ?_
  have mm : Mem w F0 _ (poI4 W { y with sl := sl2 } (poCutAt p1 s) ++ [bk b2 [Value.int .i64 ((s : Nat) : Int)] 3]) := mm.openN
  have hp2l : (poCutAt p1 s).shs.length = N := by show (setN _ _ _).length = N; rw [setN_length, hsh1]
  have hsl2 : sl2.length = (poCutAt p1 s).shs.length := poI4_nil mm
  generalize poCutAt p1 s = p2 at *
  have mm : Mem w F0 _ [bk y.q (poB { y with sl := sl2 } p2) 93, own 94 1 y.asl p2.shs.length y.csl (ptrsC sl2), own 31 5 y.aak p2.acks.length y.cak (acksC p2.acks), listI (shIs W sl2 p2.shs), bk b2 [Value.int .i64 ((s : Nat) : Int)] 3] := mm
  obtain ⟨x2, hx2⟩ : ∃ x, x = sl2.getD s sa0 := ⟨_, rfl⟩
  have hn2 := shIs_nth W sl2 p2.shs s (by omega) (by omega)
  rw [← hx2] at hn2
  refine c_sdraw2 mixed [(0, some 0), (1, some 0), (2, some 0), (3, some 2), (4, some 2), (5, some 0), (6, some 2), (7, none), (8, some 0), (9, some 0)] [0, 0, 0, 0, 2, 0, 0, 0, 0, 0] (Sof mm) (Sof mm) (fun _ h => h) (by kernel_rfl) rfl rfl (by kernel_rfl) (fun w8 hc => ?_)
  have mm := mm.frame hc
  refine q01 rfl (fun w => r_mvp rfl) ?_
  refine q01 rfl (fun w => r_nil rfl) ?_
  refine q01 rfl (fun w => r_fa rfl) ?_
  refine qA1 rfl (fun w m => r_ld rfl (m.b 0 rfl) rfl) mm ?_
  refine qA1 rfl (fun w m => r_ld rfl (m.b 4 rfl) rfl) mm ?_
  refine q01 rfl (fun w => r_ix rfl rfl (by omega) (by omega) ((mm.c 1 rfl).some (ptrs_nth sl2 s (by omega)))) ?_
  refine qA1 rfl (fun w m => r_ldc rfl (m.c 1 rfl) (ptrs_nth sl2 s (by omega))) mm ?_
  refine qo rfl (o_c1 (show _ = Value.pointer (some ⟨x2.1, 0, none⟩) by rw [hx2]; rfl) (c_shLen W (p2.sh s) x2.1 x2.2.1 x2.2.2 oks3.base oks3.len _ (shI_b (mm.at 3 rfl s hn2))) ?_)
  rintro _ w9 ⟨rfl, hc⟩
  have mm := mm.frame hc
  refine ⟨trivial, ?_⟩
  refine q01 rfl (fun w => r_asi rfl) ?_
  refine q01 rfl (fun w => r_asi rfl) ?_
  refine qn ?_
  have mm : Mem w F0 _ (poI4 W { y with sl := sl2 } p2) := mm.pk [0, 1, 2, 3] (by decide)
  exact c_ret (ret2 rfl rfl rfl ⟨sl2, rfl, mm.close⟩)
end Go.Proofs.Ytbcpabfemejlgaa
/- post.Post's Ack: the walk. -/
namespace Go.Proofs.Ytbcpabfemejlgaa
open K
set_option maxRecDepth 100000
set_option maxHeartbeats 4000000

theorem c_poAck {N : Nat} {W : Int} (y : PL) (p : Po) (ok : PoOk N W p) (r : Int) (c : Clk) (hcl : ∀ i, i < 5 → 0 ≤ c.get i ∧ c.get i ≤ 1048576) (w : World) (hI : (poI W y p).holds w) :
    Cl Try.prog 38 #[.pointer (some ⟨y.q, 0, none⟩), .int .i64 r, .agg (clkC c).toArray] w
      (fun v w' => ∃ sl', v = .int .i64 (poAck p r c).2 ∧ Mem w (poI W y p).foot w' [poI W { y with sl := sl' } (poAck p r c).1]) := by
  have mm : Mem w (poI W y p).foot w (poI4 W y p) := (Mem.one hI).open
  generalize hF0 : (poI W y p).foot = F0 at mm
  have hsh := ok.shs; have hac := ok.acks; have n1 := ok.n1; have n5 := ok.n5; have hW4 := ok.w4
  refine f_enter (args := [_, _, _]) Try.func38 rfl rfl ?_
  refine c_sreg rfl ?_
  refine so (o_bxa mm rfl fun b2 w2 mm => ?_)
  refine s1 (r_asi rfl) ?_
  refine wn ?_
  have mm : Mem w F0 _ [bk y.q (poB y p) 93, own 94 1 y.asl p.shs.length y.csl (ptrsC y.sl), own 31 5 y.aak p.acks.length y.cak (acksC p.acks), listI (shIs W y.sl p.shs), bk b2 (clkC c) 31] := mm
  refine c_seq ?_
  refine c_sreg rfl ?_
  refine s1 (r_mvp rfl) ?_
  refine s1 (r_mvi rfl) ?_
  refine so (o_c2 rfl rfl (c_poIs y p r _ (mm.b 0 rfl)) ?_)
  rintro _ w3 ⟨rfl, hc⟩
  have mm := mm.frame hc
  refine s1 (r_not rfl) ?_
  refine wn ?_
  refine c_cond rfl (fun h => ?_) (fun h => (c_skip (t_n ?_)))
  · have h0 : poIs p r = false := by simpa using h
    have e1 : poAck p r c = (p, 23) := by unfold poAck; rw [if_pos h0]
    refine c_sreg rfl ?_
    refine s1 (r_asi rfl) ?_
    refine wn ?_
    rw [e1]
    have mm : Mem w F0 _ (poI4 W y p) := mm.pk [0, 1, 2, 3] (by decide)
    exact c_ret (ret1 rfl rfl ⟨y.sl, rfl, mm.close⟩)
  have h1 : poIs p r = true := by simpa using h
  clear h
  have hr : 0 ≤ r ∧ r < N := by rwa [← poIs_iff ok]
  obtain ⟨s, rfl⟩ := Int.eq_ofNat_of_zero_le hr.1
  have hs : s < N := by omega
  have hack : poAck p ((s : Nat) : Int) c = (poCutTo { p with acks := setN p.acks s ((p.ack s).join c) } p.shs.length, 0) := by
    unfold poAck
    rw [if_neg (by rw [h1]; decide)]
    rfl
  rw [hack]
  clear hack h1
  have hx5 : ∀ vs : List Value, vs = clkC ((p.ack s).join c) → ones vs = true ∧ vs.length = 5 := fun vs hv => by subst hv; exact ⟨rfl, rfl⟩
  refine c_sdraw2 mixed [(0, some 0), (1, some 0), (2, some 0), (4, some 0), (5, some 0), (6, some 0), (7, some 0), (9, some 0), (3, some 2), (8, some 2), (10, some 2), (11, some 2), (12, some 2), (13, none), (14, some 0), (15, none)] [0, 0, 0, 0, 0, 0, 0, 0, 2, 0, 2, 2, 2, 2, 0, 0] (Sof mm) (Sof mm) (fun _ h => h) (by kernel_rfl) rfl rfl (by kernel_rfl) (fun w4 hc => ?_)
  have mm := mm.frame hc
  refine q01 rfl (fun w => r_mvp rfl) ?_
  refine q01 rfl (fun w => r_nil rfl) ?_
  refine q01 rfl (fun w => r_fa rfl) ?_
  refine q01 rfl (fun w => r_mvi rfl) ?_
  refine q01 rfl (fun w => r_mvp rfl) ?_
  refine q01 rfl (fun w => r_nil rfl) ?_
  refine q01 rfl (fun w => r_fa rfl) ?_
  refine q01 rfl (fun w => r_mvi rfl) ?_
  refine qA1 rfl (fun w m => r_ld rfl (m.b 0 rfl) rfl) mm ?_
  refine qA1 rfl (fun w m => r_ld rfl (m.b 0 rfl) rfl) mm ?_
  refine qA1 rfl (fun w m => r_ix rfl rfl (by omega) (by omega) (acks_some (mm.c 2 rfl) (show s < p.acks.length by omega))) mm ?_
  refine qA1 rfl (fun w m => r_ldce rfl (m.c 2 rfl) (acks_seg p.acks s (by omega)) (acks_le p.acks s (by omega)) (by decide)) mm ?_
  refine qA1 rfl (fun w m => r_lda rfl (m.b 4 rfl) rfl) mm ?_
  refine qo rfl (o_c2 rfl rfl (c_join _ _ _) ?_)
  rintro _ w5 ⟨rfl, hc⟩
  have mm := mm.frame hc
  refine ⟨mm, ?_⟩
  refine q01 rfl (fun w => r_ix rfl rfl (by omega) (by omega) (acks_some (mm.c 2 rfl) (show s < p.acks.length by omega))) ?_
  refine qs rfl (o_stca mm 2 rfl rfl rfl rfl rfl (by show 0 < 5; decide) (by show s * 5 + 5 ≤ p.acks.length * 5; omega) fun w6 mm => ⟨trivial, ?_⟩)
  refine qn ?_
  have hsp := acks_splice p.acks s ((p.ack s).join c) (by omega)
  obtain ⟨p1, hp1⟩ : ∃ p1 : Po, p1 = { p with acks := setN p.acks s ((p.ack s).join c) } := ⟨_, rfl⟩
  have hal : (setN p.acks s ((p.ack s).join c)).length = p.acks.length := setN_length _ _ _
  have e4 : poI4 W y p1 ++ [bk b2 (clkC c) 31] = [bk y.q (poB y p) 93, own 94 1 y.asl p.shs.length y.csl (ptrsC y.sl), own 31 5 y.aak p.acks.length y.cak (splice (acksC p.acks) (s * 5) (clkC ((p.ack s).join c))), listI (shIs W y.sl p.shs), bk b2 (clkC c) 31] := by
    rw [hsp, hp1]
    show [bk y.q (poB y { p with acks := setN p.acks s ((p.ack s).join c) }) _, _, own _ 5 y.aak (setN p.acks s ((p.ack s).join c)).length y.cak (acksC (setN p.acks s ((p.ack s).join c))), _, _] = _
    rw [show poB y { p with acks := setN p.acks s ((p.ack s).join c) } = poB y p from by unfold poB; simp only [hal], hal]
  have mm := mm.castL e4.symm
  rw [← hp1]
  have hsh1 : p1.shs.length = N := by rw [hp1]; exact hsh
  have hac1 : p1.acks.length = N := by rw [hp1]; show (setN _ _ _).length = N; rw [setN_length, hac]
  have hshp : ∀ j, p1.sh j = p.sh j := fun j => by rw [hp1]; rfl
  have hll : ∀ j, j < 5 → 0 ≤ least p1.acks j ∧ least p1.acks j ≤ 1048576 := fun j hj => by
    rw [hp1]
    have ha := ack_ok ok hcl s hs
    exact least_in _ _ _ _ (by show 0 < (setN _ _ _).length; rw [setN_length, hac]; exact n1) fun i hi => (ha i (by have hi : i < (setN p.acks s ((p.ack s).join c)).length := hi; rw [setN_length, hac] at hi; exact hi) j hj).1
  have hshs : p.shs.length = p1.shs.length := by rw [hsh, hsh1]
  have mm : Mem w F0 _ [bk y.q (poB y p1) 93, own 94 1 y.asl p1.shs.length y.csl (ptrsC y.sl), own 31 5 y.aak p1.acks.length y.cak (acksC p1.acks), listI (shIs W y.sl p1.shs), bk b2 (clkC c) 31] := mm
  rw [hshs]
  clear e4 hsp hal hx5
  clear hp1
  refine c_seq ?_
  refine c_sreg rfl ?_
  refine s1 (r_mvp rfl) ?_
  refine s1 (r_nil rfl) ?_
  refine s1 (r_fa rfl) ?_
  refine s1 (r_ld rfl (mm.b 0 rfl) rfl) ?_
  refine s1 (r_len rfl) ?_
  refine s1 (r_mvi rfl) ?_
  refine wn ?_
  have mm : Mem w F0 _ [poI W y p1] := (Mem.closeN (A := poI4 W y p1) mm).pk [0] (by decide)
  have hs1 : p1.shs.length = N := hsh1
  refine c_block ?_
  refine c_loop (fun kk e w' => ∃ (i : Nat) (sl' : List ShA), kk + i = N ∧ e 0 = .pointer (some ⟨y.q, 0, none⟩) ∧ e 31 = .int .i64 (p1.shs.length : Nat) ∧ e 32 = .int .i64 (i : Nat) ∧ Mem w F0 w' [poI W { y with sl := sl' } (poCutTo p1 i)]) N ?_ ?_
  · exact ⟨0, y.sl, rfl, rfl, rfl, rfl, mm⟩
  clear mm
  rintro kk e w9 ⟨i, sl', hki, h0, h31, h32, mm⟩
  refine c_sreg rfl ?_
  refine s1 (r_lt h32 h31) ?_
  refine wn ?_
  refine c_seq ?_
  refine c_cond rfl (fun h => (c_skip (t_n ?_))) (fun h => (c_exit (t_x (t_x (b_x (t_n ?_))))))
  · have hi : i < N := by simp at h; omega
    clear h
    refine c_seq ?_
    refine c_block ?_
    refine c_sreg rfl ?_
    refine s1 (r_mvi h32) ?_
    refine s1 (r_asi rfl) ?_
    refine wn ?_
    have hsi : (poCutTo p1 i).sh i = p.sh i := by rw [sh_cutTo _ _ (by omega), if_neg (by omega), hshp]
    refine c_region rfl ?_
    refine s1 (r_mvp h0) ?_
    refine s1 (r_mvi rfl) ?_
    refine so (o_c2 rfl rfl (c_poCut { y with sl := sl' } (poCutTo p1 i) i n1 n5 hW4 hi (by rw [cutTo_shs]; exact hsh1) (by rw [cutTo_acks]; exact hac1) (by rw [hsi]; exact ok.sh i hi) (by rw [cutTo_acks]; exact hll i (by omega)) _ (mm.h 0 rfl)) ?_)
    rintro _ w7 ⟨sl2, rfl, hm⟩
    have mm := mm.lift1 0 rfl hm
    refine wn (b_n (t_n ?_))
    refine c_region rfl ?_
    refine s1 (r_add h32 rfl (wi (by omega) (by omega))) ?_
    refine s1 (r_mvi rfl) ?_
    refine wn (t_n ?_)
    exact ⟨kk - 1, by omega, i + 1, sl2, by omega, h0, h31, rfl, mm⟩
  have hi : i = p1.shs.length := by simp at h; omega
  subst hi
  clear h
  refine c_sreg rfl ?_
  refine s1 (r_asi rfl) ?_
  refine wn ?_
  exact c_ret (ret1 rfl rfl ⟨sl', rfl, mm⟩)
end Go.Proofs.Ytbcpabfemejlgaa
/- post.Post's Site, Fetch, New: walks. -/
namespace Go.Proofs.Ytbcpabfemejlgaa
open K
set_option maxRecDepth 100000
set_option maxHeartbeats 4000000

/-- How the hub stands. -/
structure HS where
  up : Bool
  base : Clk
  len : Clk
  acks : List Clk
def hsC (x : HS) : List Value := .bool x.up :: (clkC x.base ++ (clkC x.len ++ acksC x.acks))
def hs0 : HS := ⟨false, clk0, clk0, List.replicate 5 clk0⟩
def siteTo (p : Po) : Nat → HS
  | 0 => { hs0 with up := true }
  | i + 1 => ⟨true, (siteTo p i).base.set i (p.sh i).base, (siteTo p i).len.set i (p.sh i).len, setN (siteTo p i).acks i (p.ack i)⟩
def poSite (p : Po) : HS := siteTo p p.shs.length
theorem siteTo_len (p : Po) : ∀ i, (siteTo p i).acks.length = 5
  | 0 => rfl
  | i + 1 => by show (setN _ _ _).length = 5; rw [setN_length]; exact siteTo_len p i
theorem siteTo_up (p : Po) : ∀ i, (siteTo p i).up = true
  | 0 => rfl
  | _ + 1 => rfl
theorem hs_base (x : HS) (i : Nat) (hi : i < 5) (v : Int) : setN (hsC x) (0 + 1 + ((i : Nat) : Int).toNat * 1) (.int .i64 v) = hsC { x with base := x.base.set i v } := by
  match i, hi with
  | 0, _ => rfl | 1, _ => rfl | 2, _ => rfl | 3, _ => rfl | 4, _ => rfl
theorem hs_len (x : HS) (i : Nat) (hi : i < 5) (v : Int) : setN (hsC x) (0 + 6 + ((i : Nat) : Int).toNat * 1) (.int .i64 v) = hsC { x with len := x.len.set i v } := by
  match i, hi with
  | 0, _ => rfl | 1, _ => rfl | 2, _ => rfl | 3, _ => rfl | 4, _ => rfl
theorem hs_blt (x : HS) (j : Nat) (hj : j < 11) : Nat.blt j (hsC x).length = true := by
  rw [Nat.blt_eq]
  show j < (Value.bool x.up :: (clkC x.base ++ (clkC x.len ++ acksC x.acks))).length
  rw [List.length_cons, List.length_append, List.length_append]
  show j < 5 + (5 + _) + 1
  omega
theorem hsC_length (x : HS) : (hsC x).length = 11 + x.acks.length * 5 := by
  unfold hsC
  rw [List.length_cons, List.length_append, List.length_append, acksC_length]
  show 5 + (5 + _) + 1 = _
  omega
theorem ones_hs (x : HS) : ones (hsC x) = true := by
  unfold hsC
  exact ones_append (a := [Value.bool x.up]) rfl (ones_append (a := clkC x.base) rfl (ones_append (a := clkC x.len) rfl (ones_acks x.acks)))
theorem seg_all (cs : List Value) (n : Nat) (h : cs.length = n) : seg cs 0 n = cs := by unfold seg; rw [List.drop_zero, List.take_of_length_le (by omega)]
theorem spl_all (cs vs : List Value) (h : cs.length = vs.length) : spl cs 0 vs = vs := by
  rw [spl_eq _ _ _ (by omega)]
  unfold splice
  rw [List.take_zero, List.drop_of_length_le (by omega), List.nil_append, List.append_nil]
theorem splice_app (A B vs : List Value) (j : Nat) : splice (A ++ B) (A.length + j) vs = A ++ splice B j vs := by
  unfold splice
  have e2 : A.length + j + vs.length = A.length + (j + vs.length) := by omega
  rw [e2, List.take_length_add_append, ← List.drop_drop, List.drop_left, List.append_assoc, List.append_assoc, List.append_assoc]
theorem hs_acks (x : HS) (i : Nat) (hi : i < x.acks.length) (c : Clk) : spl (hsC x) (0 + 11 + ((i : Nat) : Int).toNat * 5) (clkC c) = hsC { x with acks := setN x.acks i c } := by
  have hl := acksC_length x.acks
  have hA : (Value.bool x.up :: (clkC x.base ++ clkC x.len)).length = 11 := rfl
  have e : hsC x = (Value.bool x.up :: (clkC x.base ++ clkC x.len)) ++ acksC x.acks := rfl
  have e2 : 0 + 11 + ((i : Nat) : Int).toNat * 5 = (Value.bool x.up :: (clkC x.base ++ clkC x.len)).length + i * 5 := by rw [hA]; show 0 + 11 + i * 5 = _; omega
  rw [spl_eq _ _ _ (by rw [e, List.length_append, hA, hl]; show 0 + 11 + i * 5 + 5 ≤ _; omega), e2, e, splice_app, acks_splice _ _ _ hi]
  rfl
/-- What stands of a post, while nothing of it turns. -/
structure PoR (W : Int) (y : PL) (p : Po) (w : World) : Prop where
  b : w.heap[y.q]? = some (.cells (poB y p).toArray 93 (0, 0))
  ptr : Cells w y.asl (ptrsC y.sl)
  acks : Cells w y.aak (acksC p.acks)
  sl : y.sl.length = p.shs.length
  capS : p.shs.length ≤ y.csl
  sh : ∀ s, s < p.shs.length → (shI W (y.sl.getD s sa0).1 (y.sl.getD s sa0).2.1 (y.sl.getD s sa0).2.2 (p.sh s)).holds w
theorem poR {W : Int} {y : PL} {p : Po} {w : World} (hI : (poI W y p).holds w) : PoR W y p w := by
  have mm : Mem w (poI W y p).foot w (poI4 W y p) := (Mem.one hI).open
  have hsl : y.sl.length = p.shs.length := poI4_nil (L := []) mm
  exact ⟨mm.b 0 rfl, mm.c 1 rfl, mm.c 2 rfl, hsl, own_le (mm.o 1 rfl), fun s hs => mm.at 3 rfl s (shIs_nth W y.sl p.shs s (by omega) hs)⟩
theorem PoR.fr {W : Int} {y : PL} {p : Po} {w w' : World} (h : PoR W y p w) (hc : Chg No w w') : PoR W y p w' :=
  ⟨(hc.same y.q (Array.getElem?_eq_some_iff.1 h.b).1 (fun h => h)).trans h.b, h.ptr.fr hc, h.acks.fr hc, h.sl, h.capS, fun s hs => (shI W _ _ _ _).keep w w' (h.sh s hs) fun b hb => hc.same b ((shI W _ _ _ _).live w b (h.sh s hs) hb) (fun h => h)⟩
theorem PoR.at {W : Int} {y : PL} {p : Po} {w w' : World} {L : List It} (h : PoR W y p w) (m : Mem w No w' L) : PoR W y p w' := h.fr m.chg
theorem c_poSite {N : Nat} {W : Int} (y : PL) (p : Po) (ok : PoOk N W p) (w : World) (hR : PoR W y p w) :
    Cl Try.prog 22 #[.pointer (some ⟨y.q, 0, none⟩)] w (fun v w' => v = .agg (hsC (poSite p)).toArray ∧ Chg No w w') := by
  have hsh := ok.shs; have hac := ok.acks; have n1 := ok.n1; have n5 := ok.n5
  have hsl := hR.sl
  refine f_enter (args := [_]) Try.func22 rfl rfl ?_
  have mm := Mem.nil No w
  refine c_sreg rfl ?_
  refine so (o_al mm fun b2 w2 mm => ?_)
  refine wn ?_
  refine c_sreg rfl ?_
  refine s1 (r_bd (bb rfl bN) rfl) ?_
  refine so (o_al mm fun b3 w3 mm => ?_)
  refine ss (o_sta mm 1 rfl rfl rfl rfl rfl (Nat.le_of_ble_eq_true rfl) fun w4 mm => ?_)
  refine wn ?_
  have mm : Mem w No _ [bk b2 (hsC hs0) 34, bk b3 (hsC (siteTo p 0)) 34] := mm
  refine c_seq ?_
  refine c_sreg rfl ?_
  refine s1 (r_mvp rfl) ?_
  refine s1 (r_nil rfl) ?_
  refine s1 (r_fa rfl) ?_
  refine s1 (r_ld rfl (((fun m ↦ (hR.at m).b)) mm) rfl) ?_
  refine s1 (r_len rfl) ?_
  refine s1 (r_mvi rfl) ?_
  refine wn ?_
  refine c_block ?_
  refine c_loop (fun kk e w' => ∃ i : Nat, kk + i = N ∧ e 0 = .pointer (some ⟨y.q, 0, none⟩) ∧ e 2 = .pointer (some ⟨b2, 0, none⟩) ∧ e 3 = .pointer (some ⟨b3, 0, none⟩) ∧ e 10 = .slice y.asl p.shs.length y.csl ∧ e 11 = .int .i64 (p.shs.length : Nat) ∧ e 12 = .int .i64 (i : Nat) ∧ Mem w No w' [bk b2 (hsC hs0) 34, bk b3 (hsC (siteTo p i)) 34]) N ?_ ?_
  · exact ⟨0, rfl, rfl, rfl, rfl, rfl, rfl, rfl, mm⟩
  clear mm
  rintro kk e w9 ⟨i, hki, h0, h2, h3, h10, h11, h12, mm⟩
  refine c_sreg rfl ?_
  refine s1 (r_lt h12 h11) ?_
  refine wn ?_
  refine c_seq ?_
  refine c_cond rfl (fun h => (c_skip (t_n ?_))) (fun h => (c_exit (t_x (t_x (b_x (t_n ?_))))))
  · have hi : i < N := by simp at h; omega
    clear h
    have hlen := siteTo_len p i
    obtain ⟨x, hx⟩ : ∃ x, x = y.sl.getD i sa0 := ⟨_, rfl⟩
    refine c_seq ?_
    refine c_block ?_
    refine c_sreg rfl ?_
    refine s1 (r_mvi h12) ?_
    refine s1 (r_ix h10 h12 (by omega) (by omega) (hR.ptr.some (ptrs_nth y.sl i (by omega)))) ?_
    refine s1 (r_ldc rfl ((hR.at mm).ptr) (ptrs_nth y.sl i (by omega))) ?_
    refine s1 (r_asi rfl) ?_
    refine s1 (r_asp (show _ = Value.pointer (some ⟨x.1, 0, none⟩) by rw [hx]; rfl)) ?_
    refine wn ?_
    have hS : ∀ {w' : World} {L : List It}, Mem w No w' L → w'.heap[x.1]? = some (.cells (shB W (p.sh i) x.2.1 x.2.2).toArray 122 (0, 0)) := fun m => by rw [hx]; exact shI_b ((hR.at m).sh i (by omega))
    have oks := ok.sh i hi
    refine c_draw2 mixed [(0, some 0), (1, some 0), (2, some 0), (3, some 0), (5, some 0), (7, some 0), (8, some 0), (9, some 0), (11, some 0), (14, some 0), (17, some 0), (20, some 0), (10, some 2), (12, some 0), (13, some 2), (4, none), (15, some 2), (6, none), (16, none), (18, some 2), (19, none), (21, some 0), (22, none)] [0, 0, 0, 0, 2, 0, 2, 0, 0, 0, 0, 0, 0, 0, 0, 2, 2, 0, 2, 2, 0, 0, 0] (Sof (mm.pk [] (by decide))) (Sof (mm.pk [] (by decide))) (fun _ h => h) (by kernel_rfl) rfl rfl (by kernel_rfl) (fun w5 hc => ?_)
    have mm := mm.frame hc
    refine q01 rfl (fun w => r_mvi rfl) ?_
    refine q01 rfl (fun w => r_mvi rfl) ?_
    refine q01 rfl (fun w => r_mvi rfl) ?_
    refine q01 rfl (fun w => r_mvp (show _ = Value.pointer (some ⟨x.1, 0, none⟩) by rw [hx]; rfl)) ?_
    refine q01 rfl (fun w => r_mvp (show _ = Value.pointer (some ⟨x.1, 0, none⟩) by rw [hx]; rfl)) ?_
    refine q01 rfl (fun w => r_mvp h0) ?_
    refine q01 rfl (fun w => r_nil rfl) ?_
    refine q01 rfl (fun w => r_fa rfl) ?_
    refine q01 rfl (fun w => r_mvi rfl) ?_
    refine q01 rfl (fun w => r_fa h3) ?_
    refine q01 rfl (fun w => r_fa h3) ?_
    refine q01 rfl (fun w => r_fa h3) ?_
    refine qA1 rfl (fun w m => r_ld rfl (((fun m ↦ (hR.at m).b)) m) rfl) (mm.pk [] (by decide)) ?_
    refine q01 rfl (fun w => r_ix rfl rfl (by omega) (by omega) (acks_some hR.acks (show i < p.acks.length by omega))) ?_
    refine qA1 rfl (fun w m => r_ldce rfl ((hR.at m).acks) (acks_seg p.acks i (by omega)) (acks_le p.acks i (by omega)) (by decide)) (mm.pk [] (by decide)) ?_
    refine qo rfl (o_c1 rfl (c_shBase W (p.sh i) x.1 x.2.1 x.2.2 _ (hS mm)) ?_)
    rintro _ w6 ⟨rfl, hc⟩
    have mm := mm.frame hc
    refine ⟨(mm.pk [] (by decide)), ?_⟩
    refine qA1 rfl (fun w m => r_ixa rfl rfl (by omega) (by omega)) (mm.pk [] (by decide)) ?_
    refine qo rfl (o_c1 rfl (c_shLen W (p.sh i) x.1 x.2.1 x.2.2 oks.base oks.len _ (hS mm)) ?_)
    rintro _ w7 ⟨rfl, hc⟩
    have mm := mm.frame hc
    refine ⟨(mm.pk [] (by decide)), ?_⟩
    refine qs rfl (o_st mm 1 rfl rfl rfl rfl (hs_blt _ _ (by show 0 + 1 + i * 1 < 11; omega)) fun w8 mm => ⟨(mm.pk [] (by decide)), ?_⟩)
    refine qA1 rfl (fun w m => r_ixa rfl rfl (by omega) (by omega)) (mm.pk [] (by decide)) ?_
    refine qs rfl (o_st mm 1 rfl rfl rfl rfl (by rw [setN_length]; exact hs_blt _ _ (by show 0 + 6 + i * 1 < 11; omega)) fun w9 mm => ⟨(mm.pk [] (by decide)), ?_⟩)
    refine q01 rfl (fun w => r_ixa rfl rfl (by omega) (by omega)) ?_
    refine qs rfl (o_sta mm 1 rfl rfl rfl rfl rfl (by rw [setN_length, setN_length, hsC_length, hlen]; show 0 + 11 + i * 5 + 5 ≤ _; omega) fun w10 mm => ⟨trivial, ?_⟩)
    refine qn (b_n (t_n ?_))
    have hi5 : i < 5 := by omega
    have mm := mm.castL (congrArg (fun z => [bk b2 (hsC hs0) 34, bk b3 z 34]) (show spl (setN (setN (hsC (siteTo p i)) (0 + 1 + ((i : Nat) : Int).toNat * 1) (.int .i64 (p.sh i).base)) (0 + 6 + ((i : Nat) : Int).toNat * 1) (.int .i64 (p.sh i).len)) (0 + 11 + ((i : Nat) : Int).toNat * 5) (clkC (p.ack i)) = hsC (siteTo p (i + 1)) from by rw [hs_base _ i hi5, hs_len _ i hi5, hs_acks _ i (by show i < (siteTo p i).acks.length; omega)]; show hsC ⟨(siteTo p i).up, (siteTo p i).base.set i (p.sh i).base, (siteTo p i).len.set i (p.sh i).len, setN (siteTo p i).acks i (p.ack i)⟩ = _; rw [siteTo_up]; rfl))
    refine c_region rfl ?_
    refine s1 (r_add h12 rfl (wi (by omega) (by omega))) ?_
    refine s1 (r_mvi rfl) ?_
    refine wn (t_n ?_)
    exact ⟨kk - 1, by omega, i + 1, by omega, h0, h2, h3, h10, h11, rfl, mm⟩
  have hi : i = N := by simp at h; omega
  subst hi
  clear h
  have hll : (hsC (siteTo p i)).length = 36 := by rw [hsC_length, siteTo_len]
  refine c_sreg rfl ?_
  refine s1 (r_lda h3 (mm.b 1 rfl) (by rw [hll]; rfl)) ?_
  refine ss (o_sta mm 0 rfl h2 (show _ = Value.agg (hsC (siteTo p i)).toArray from congrArg (fun z => Value.agg (List.toArray z)) (seg_all _ 36 hll)) (ones_hs _) hll (by show 0 + 36 ≤ (hsC hs0).length; decide) fun w11 mm => ?_)
  refine wn ?_
  have mm := mm.castL (congrArg (fun z => [bk b2 z 34, bk b3 (hsC (siteTo p i)) 34]) (spl_all (hsC hs0) (hsC (siteTo p i)) (by rw [hll]; rfl)))
  have e1 : poSite p = siteTo p i := by unfold poSite; rw [hsh]
  rw [e1]
  exact c_ret (retc rfl h2 (mm.b 0 rfl) hll ⟨rfl, mm.chg⟩)
end Go.Proofs.Ytbcpabfemejlgaa
/- post.Post's Fetch, post.New: walks. -/
namespace Go.Proofs.Ytbcpabfemejlgaa
open K
set_option maxRecDepth 100000
set_option maxHeartbeats 4000000

theorem fetchTo_len {p : Po} {r : Int} {c : Clk} {W : Int} (hW : W ≤ 4) (n : Nat) (ok : ∀ s, s < n → ((p.sh s).l.length : Int) ≤ W) : ∀ i, i ≤ n → (fetchTo p r c i).length ≤ 4 * i
  | 0, _ => Nat.zero_le _
  | i + 1, hi => by
    have ih := fetchTo_len (r := r) (c := c) hW n ok i (by omega)
    have h1 := ok i (by omega)
    have h2 := above_len (c.get i) (p.sh i).l
    rw [fetchTo, List.length_append]
    split
    · omega
    · simp; omega
theorem c_poFetch {N : Nat} {W : Int} (y : PL) (p : Po) (ok : PoOk N W p) (r : Int) (c : Clk) (w : World) (hR : PoR W y p w) :
    Cl Try.prog 48 #[.pointer (some ⟨y.q, 0, none⟩), .int .i64 r, .agg (clkC c).toArray] w
      (fun v w' => ∃ a' c', v = .tuple #[.slice a' (poFetch p r c).1.length c', .int .i64 (poFetch p r c).2] ∧ Chg No w w' ∧ New w w' (own 67 12 a' (poFetch p r c).1.length c' (evsC (poFetch p r c).1))) := by
  have hsh := ok.shs; have n1 := ok.n1; have n5 := ok.n5; have hW4 := ok.w4
  have hsl := hR.sl
  refine f_enter (args := [_, _, _]) Try.func48 rfl rfl ?_
  have mm := Mem.nil No w
  refine c_sreg rfl ?_
  refine so (o_bxa mm rfl fun b2 w2 mm => ?_)
  refine s1 (r_ass rfl) ?_
  refine s1 (r_asi rfl) ?_
  refine wn ?_
  have mm : Mem w No _ [bk b2 (clkC c) 31] := mm
  refine c_seq ?_
  refine c_sreg rfl ?_
  refine s1 (r_mvp rfl) ?_
  refine s1 (r_mvi rfl) ?_
  refine so (o_c2 rfl rfl (c_poIs y p r _ (hR.at mm).b) ?_)
  rintro _ w3 ⟨rfl, hc⟩
  have mm := mm.frame hc
  refine s1 (r_not rfl) ?_
  refine wn ?_
  refine c_cond rfl (fun h => ?_) (fun h => (c_skip (t_n ?_)))
  · have h0 : poIs p r = false := by simpa using h
    have e1 : poFetch p r c = ([], 23) := by unfold poFetch; rw [if_pos h0]
    refine c_sreg rfl ?_
    refine s1 (r_ass rfl) ?_
    refine s1 (r_asi rfl) ?_
    refine wn ?_
    rw [e1]
    have mm := mm.nilrow (T := 67) (sz := 12)
    exact c_ret (ret2 rfl rfl rfl ⟨none, 0, rfl, mm.chg, mm.isNew 1 rfl⟩)
  have h1 : poIs p r = true := by simpa using h
  have e1 : poFetch p r c = (fetchTo p r c N, 0) := by unfold poFetch; rw [if_neg (by rw [h1]; decide), hsh]
  rw [e1]
  clear h h1 e1
  refine c_sreg rfl ?_
  refine s1 (r_asf rfl) ?_
  refine wn ?_
  refine c_sreg rfl ?_
  refine s1 (r_ass rfl) ?_
  refine wn ?_
  refine c_seq ?_
  refine c_sreg rfl ?_
  refine s1 (r_mvp rfl) ?_
  refine s1 (r_nil rfl) ?_
  refine s1 (r_fa rfl) ?_
  refine s1 (r_ld rfl (((fun m ↦ (hR.at m).b)) mm) rfl) ?_
  refine s1 (r_len rfl) ?_
  refine s1 (r_mvi rfl) ?_
  refine wn ?_
  refine c_block ?_
  refine c_loop (fun kk e w' => ∃ (i : Nat) (ao : Option Addr) (co : Nat), kk + i = N ∧ e 0 = .pointer (some ⟨y.q, 0, none⟩) ∧ e 1 = .int .i64 r ∧ e 5 = .pointer (some ⟨b2, 0, none⟩) ∧ e 8 = .func (.func 73) #[] #[] ∧ e 9 = .slice ao (fetchTo p r c i).length co ∧ e 19 = .slice y.asl p.shs.length y.csl ∧ e 20 = .int .i64 (p.shs.length : Nat) ∧ e 21 = .int .i64 (i : Nat) ∧ Mem w No w' [bk b2 (clkC c) 31, own 67 12 ao (fetchTo p r c i).length co (evsC (fetchTo p r c i))]) N ?_ ?_
  · exact ⟨0, none, 0, rfl, rfl, rfl, rfl, rfl, rfl, rfl, rfl, rfl, mm.nilrow⟩
  clear mm
  rintro kk e w9 ⟨i, ao, co, hki, h0, h1, h5, h8, h9, h19, h20, h21, mm⟩
  refine c_sreg rfl ?_
  refine s1 (r_lt h21 h20) ?_
  refine wn ?_
  refine c_seq ?_
  refine c_cond rfl (fun h => (c_skip (t_n ?_))) (fun h => (c_exit (t_x (t_x (b_x (t_n ?_))))))
  · have hi : i < N := by simp at h; omega
    clear h
    obtain ⟨x, hx⟩ : ∃ x, x = y.sl.getD i sa0 := ⟨_, rfl⟩
    refine c_seq ?_
    refine c_block ?_
    refine c_sreg rfl ?_
    refine s1 (r_mvi h21) ?_
    refine s1 (r_ix h19 h21 (by omega) (by omega) (hR.ptr.some (ptrs_nth y.sl i (by omega)))) ?_
    refine s1 (r_ldc rfl ((hR.at mm).ptr) (ptrs_nth y.sl i (by omega))) ?_
    refine s1 (r_asi rfl) ?_
    refine s1 (r_asp rfl) ?_
    refine wn ?_
    refine c_sreg rfl ?_
    refine s1 (r_mvi rfl) ?_
    refine s1 (r_mvi h1) ?_
    refine s1 (r_ne rfl rfl) ?_
    refine wn ?_
    have hlen := fetchTo_len (r := r) (c := c) (p := p) hW4 N (fun s hs => (ok.sh s hs).win) i (by omega)
    refine c_mid1 (fun e w' => ∃ (ao : Option Addr) (co : Nat), e 0 = .pointer (some ⟨y.q, 0, none⟩) ∧ e 1 = .int .i64 r ∧ e 5 = .pointer (some ⟨b2, 0, none⟩) ∧ e 8 = .func (.func 73) #[] #[] ∧ e 9 = .slice ao (fetchTo p r c (i + 1)).length co ∧ e 19 = .slice y.asl p.shs.length y.csl ∧ e 20 = .int .i64 (p.shs.length : Nat) ∧ e 21 = .int .i64 (i : Nat) ∧ Mem w No w' [bk b2 (clkC c) 31, own 67 12 ao (fetchTo p r c (i + 1)).length co (evsC (fetchTo p r c (i + 1)))]) ?_ ?_
    · refine c_cond rfl (fun h => ?_) (fun h => (c_skip (t_n ?_)))
      · have hne : ((i : Nat) : Int) ≠ r := by simpa using h
        clear h
        have hsn : fetchTo p r c (i + 1) = fetchTo p r c i ++ above (c.get i) (p.sh i).l := by rw [fetchTo, if_pos hne]
        have hal := above_len (c.get i) (p.sh i).l
        have hwin := (ok.sh i hi).win
        have hS := (hR.at mm).sh i (by omega)
        rw [← hx] at hS
        refine c_region rfl ?_
        refine s1 (r_mvs h9) ?_
        refine s1 (r_mvf h8) ?_
        refine s1 (r_mvp (show _ = Value.pointer (some ⟨x.1, 0, none⟩) by rw [hx]; rfl)) ?_
        refine s1 (r_mvi rfl) ?_
        refine s1 (r_ixa h5 rfl (by omega) (by omega)) ?_
        refine s1 (r_ld rfl (mm.b 0 rfl) (by simp only [Nat.mul_one, Nat.zero_add]; exact nth_clk c i (by omega))) ?_
        refine so (o_f20 rfl rfl rfl (c_shFrom W (p.sh i) (by omega) x.1 x.2.1 x.2.2 (shI_cap hS) (c.get i) _ (shI_b hS) (shI_c hS)) ?_)
        rintro _ w4 ⟨a4, c4, rfl, hc, hn⟩
        have mm := mm.new hc hn
        refine so (o_ap mm 1 rfl rfl rfl (src_own mm  2 rfl (ones_evs _)) (by omega) (by unfold maxLen; omega) fun a5 c5 w5 mm => ?_)
        refine s1 (r_ass rfl) ?_
        refine wn (t_n ?_)
        rw [hsn]
        have hle : (fetchTo p r c i ++ above (c.get i) (p.sh i).l).length = (fetchTo p r c i).length + (above (c.get i) (p.sh i).l).length := List.length_append
        have e3 : [bk b2 (clkC c) 31, own 67 12 a5 (fetchTo p r c i ++ above (c.get i) (p.sh i).l).length c5 (evsC (fetchTo p r c i ++ above (c.get i) (p.sh i).l))] = [bk b2 (clkC c) 31, own 67 12 a5 ((fetchTo p r c i).length + (above (c.get i) (p.sh i).l).length) c5 (evsC (fetchTo p r c i) ++ evsC (above (c.get i) (p.sh i).l))] := by rw [hle, evsC_append]
        have mm := Mem.castL (mm.pk [0, 1] (by decide)) e3.symm
        exact ⟨_, _, h0, h1, h5, h8, (by rw [hle]; rfl), h19, h20, h21, mm⟩
      · have hne : ¬ ((i : Nat) : Int) ≠ r := by simpa using h
        have hsn : fetchTo p r c (i + 1) = fetchTo p r c i := by rw [fetchTo, if_neg hne, List.append_nil]
        rw [hsn]
        exact ⟨ao, co, h0, h1, h5, h8, h9, h19, h20, h21, mm⟩
    clear mm h0 h1 h5 h8 h9 h19 h20 h21 hlen
    clear ao co
    rintro e w9 ⟨ao, co, h0, h1, h5, h8, h9, h19, h20, h21, mm⟩
    refine c_region rfl ?_
    refine s1 (r_add h21 rfl (wi (by omega) (by omega))) ?_
    refine s1 (r_mvi rfl) ?_
    refine wn (t_n ?_)
    exact ⟨kk - 1, by omega, i + 1, ao, co, by omega, h0, h1, h5, h8, h9, h19, h20, rfl, mm⟩
  have hi : i = N := by simp at h; omega
  subst hi
  clear h
  refine c_sreg rfl ?_
  refine s1 (r_mvs h9) ?_
  refine s1 (r_ass rfl) ?_
  refine s1 (r_asi rfl) ?_
  refine wn ?_
  exact c_ret (ret2 rfl rfl rfl ⟨ao, co, rfl, mm.chg, mm.isNew 1 rfl⟩)
end Go.Proofs.Ytbcpabfemejlgaa
/- post.New: the walk. -/
namespace Go.Proofs.Ytbcpabfemejlgaa
open K
set_option maxRecDepth 100000
set_option maxHeartbeats 4000000

structure Cf where
  n : Int
  w : Int
  q : Int
  h : Int
  l : Int
  p : Int
def cfC (c : Cf) : List Value := [.int .i64 c.n, .int .i64 c.w, .int .i64 c.q, .int .i64 c.h, .int .i64 c.l, .int .i64 c.p]
theorem zrep_acks : ∀ n, zrep (clkC clk0) n = acksC (List.replicate n clk0)
  | 0 => rfl
  | n + 1 => by
    rw [zrep, zrep_acks n, List.replicate_succ]; rfl
theorem shIs_snoc (W : Int) (b : Nat) (a : Option Addr) (c : Nat) (s : Sh) : ∀ (sl : List ShA) (ss : List Sh), sl.length = ss.length → shIs W sl ss ++ [shI W b a c s] = shIs W (sl ++ [(b, a, c)]) (ss ++ [s])
  | x :: sl, t :: ss, h => by show _ :: (shIs W sl ss ++ _) = _; rw [shIs_snoc W b a c s sl ss (by simpa using h)]; rfl
  | [], [], _ => rfl
  | [], _ :: _, h => by simp at h
  | _ :: _, [], h => by simp at h
theorem c_poNew (c : Cf) (n : Nat) (hn : c.n = n) (h5 : n ≤ 5) (w : World) :
    Cl Try.prog 19 #[.agg (cfC c).toArray] w (fun v w' => ∃ y : PL, v = .pointer (some ⟨y.q, 0, none⟩) ∧ Chg No w w' ∧ New w w' (poI c.w y (poNew n))) := by
  obtain ⟨cn, cw, cq, ch, cl, cp⟩ := c
  have hn : cn = ((n : Nat) : Int) := hn
  subst hn
  refine f_enter (args := [_]) Try.func19 rfl rfl ?_
  have mm := Mem.nil No w
  refine c_sreg rfl ?_
  refine so (o_bxa mm rfl fun b2 w2 mm => ?_)
  refine s1 (r_asp rfl) ?_
  refine wn ?_
  have mm : Mem w No _ [bk b2 (cfC ⟨n, cw, cq, ch, cl, cp⟩) 23] := mm
  refine c_sreg rfl ?_
  refine s1 (r_fa rfl) ?_
  refine s1 (r_ld rfl (mm.b 0 rfl) rfl) ?_
  refine so (o_mk mm rfl rfl (by omega) (by unfold maxLen; omega) fun a3 w3 mm => ?_)
  refine s1 (r_bd (bs rfl bN) rfl) ?_
  refine so (o_bxa mm rfl fun b4 w4 mm => ?_)
  refine s1 (r_asp rfl) ?_
  refine wn ?_
  have mm : Mem w No _ [bk b2 (cfC ⟨n, cw, cq, ch, cl, cp⟩) 23, own 31 5 a3 n n (zrep (clkC clk0) n), bk b4 [.slice none 0 0, .slice a3 n n] 93] := mm
  rw [zrep_acks] at mm
  have mm : Mem w No _ [bk b2 (cfC ⟨n, cw, cq, ch, cl, cp⟩) 23, own 31 5 a3 n n (acksC (List.replicate n clk0)), bk b4 [.slice none 0 0, .slice a3 n n] 93, own 94 1 none 0 0 (ptrsC []), listI (shIs cw [] (List.replicate 0 sh0))] := (Mem.closeN (A := []) (B := [bk b2 (cfC ⟨n, cw, cq, ch, cl, cp⟩) 23, own 31 5 a3 n n (acksC (List.replicate n clk0)), bk b4 [.slice none 0 0, .slice a3 n n] 93, own 94 1 none 0 0 []]) mm.nilrow).pk [1, 2, 3, 4, 0] (by decide)
  refine c_seq ?_
  refine c_sreg rfl ?_
  refine s1 (r_fa rfl) ?_
  refine s1 (r_ld rfl (mm.b 0 rfl) rfl) ?_
  refine s1 (r_mvi rfl) ?_
  refine wn ?_
  refine c_block ?_
  refine c_loop (fun kk e w' => ∃ (i : Nat) (sl : List ShA) (ao : Option Addr) (co : Nat), kk + i = n ∧ sl.length = i ∧ e 1 = .pointer (some ⟨b2, 0, none⟩) ∧ e 3 = .pointer (some ⟨b4, 0, none⟩) ∧ e 10 = .int .i64 (n : Nat) ∧ e 11 = .int .i64 (i : Nat) ∧ Mem w No w' [bk b2 (cfC ⟨n, cw, cq, ch, cl, cp⟩) 23, own 31 5 a3 n n (acksC (List.replicate n clk0)), bk b4 [.slice ao i co, .slice a3 n n] 93, own 94 1 ao i co (ptrsC sl), listI (shIs cw sl (List.replicate i sh0))]) n ?_ ?_
  · exact ⟨0, [], none, 0, rfl, rfl, rfl, rfl, rfl, rfl, mm⟩
  clear mm
  rintro kk e w9 ⟨i, sl, ao, co, hki, hsli, h1, h3, h10, h11, mm⟩
  refine c_sreg rfl ?_
  refine s1 (r_lt h11 h10) ?_
  refine wn ?_
  refine c_seq ?_
  refine c_cond rfl (fun h => (c_skip (t_n ?_))) (fun h => (c_exit (t_x (t_x (b_x (t_n ?_))))))
  · have hi : i < n := by simp at h; omega
    clear h
    refine c_seq ?_
    refine c_block ?_
    refine c_draw2 mixed [(0, some 0), (1, some 0), (2, some 0), (3, some 0), (5, some 0), (4, some 2), (6, some 2), (7, none), (8, none), (9, none), (10, some 0), (11, some 0), (12, none)] [0, 0, 0, 0, 0, 0, 2, 2, 2, 0, 0, 0, 0] (Sof (mm.pk [0, 1, 2, 3, 4] (by decide))) (Sof (mm.pk [0, 1, 2, 3, 4] (by decide))) (fun _ h => h) (by kernel_rfl) rfl rfl (by kernel_rfl) (fun w5 hc => ?_)
    have mm := mm.frame hc
    refine q01 rfl (fun w => r_mvp h3) ?_
    refine q01 rfl (fun w => r_mvp h3) ?_
    refine q01 rfl (fun w => r_nil rfl) ?_
    refine q01 rfl (fun w => r_fa rfl) ?_
    refine q01 rfl (fun w => r_fa h1) ?_
    refine qA1 rfl (fun w m => r_ld rfl (m.b 2 rfl) rfl) (mm.pk [0, 1, 2, 3, 4] (by decide)) ?_
    refine qA1 rfl (fun w m => r_ld rfl (m.b 0 rfl) rfl) (mm.pk [0, 1, 2, 3, 4] (by decide)) ?_
    refine qo rfl (o_c1 rfl (c_shNew cw _) ?_)
    rintro _ w6 ⟨bn, rfl, hc, hnw⟩
    have mm := mm.new hc hnw
    refine ⟨(mm.pk [0, 1, 2, 3, 4] (by decide)), ?_⟩
    refine qo rfl (o_bs1 mm rfl rfl fun a7 c7 w7 mm => ⟨(mm.pk [0, 1, 2, 3, 4] (by decide)), ?_⟩)
    refine qo rfl (o_ap mm 3 rfl rfl rfl (src_own mm 6 rfl rfl) (by omega) (by unfold maxLen; omega) fun a8 c8 w8 mm => ⟨trivial, ?_⟩)
    refine q01 rfl (fun w => r_nil rfl) ?_
    refine q01 rfl (fun w => r_fa rfl) ?_
    refine qs rfl (o_st mm 2 rfl rfl rfl rfl rfl fun w9 mm => ⟨trivial, ?_⟩)
    refine qn (b_n (t_n ?_))
    have hpl : ptrsC (sl ++ [(bn, none, 0)]) = ptrsC sl ++ [.pointer (some ⟨bn, 0, none⟩)] := by unfold ptrsC; rw [List.map_append]; rfl
    have mm := mm.pk [4, 5, 0, 1, 2, 3] (by decide)
    have mm := Mem.openN mm
    have mm := Mem.castL mm (List.append_assoc (shIs cw sl (List.replicate i sh0)) [shI cw bn none 0 sh0] _).symm
    have mm := Mem.closeN mm
    rw [shIs_snoc cw bn none 0 sh0 sl (List.replicate i sh0) (by rw [hsli, List.length_replicate]), ← List.replicate_succ'] at mm
    have mm := mm.pk [1, 2, 3, 4, 0] (by decide)
    refine c_region rfl ?_
    refine s1 (r_add h11 rfl (wi (by omega) (by omega))) ?_
    refine s1 (r_mvi rfl) ?_
    refine wn (t_n ?_)
    refine ⟨kk - 1, by omega, i + 1, sl ++ [(bn, none, 0)], a8, c8, by omega, by rw [List.length_append, hsli]; rfl, h1, h3, h10, rfl, ?_⟩
    rw [hpl]
    exact mm
  have hi : i = n := by simp at h; omega
  subst hi
  clear h
  refine c_sreg rfl ?_
  refine s1 (r_mvp h3) ?_
  refine s1 (r_asp rfl) ?_
  refine wn ?_
  have mm := mm.pk [2, 3, 1, 4] (by decide)
  have e1 : poI4 cw ⟨b4, ao, co, a3, i, sl⟩ (poNew i) = [bk b4 [.slice ao i co, .slice a3 i i] 93, own 94 1 ao i co (ptrsC sl), own 31 5 a3 i i (acksC (List.replicate i clk0)), listI (shIs cw sl (List.replicate i sh0))] := by
    unfold poI4 poB poNew
    simp only [List.length_replicate]
  have mm := Mem.castL mm e1.symm
  exact c_ret (ret1 rfl rfl ⟨_, rfl, mm.chg, mm.close.isNew 0 rfl⟩)
end Go.Proofs.Ytbcpabfemejlgaa
