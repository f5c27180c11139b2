/- slices.Concat of two, crc.Seal, slices.Clone, crc.Open: walks. -/
import Derived.Test.YtgdbbaggkoillaaCa
import Derived.Test.YtgdbbaggkoillaaKl
import Derived.KernelRfl
namespace Go.Proofs.Ytgdbbaggkoillaa
open K
set_option maxRecDepth 100000
set_option maxHeartbeats 4000000

def acc2 (p q : List UInt8) : Nat → List UInt8
  | 0 => [] | 1 => p | _ => p ++ q
theorem acc2_le (p q : List UInt8) : ∀ i, (acc2 p q i).length ≤ p.length + q.length
  | 0 => Nat.zero_le _ | 1 => Nat.le_add_right _ _ | _ + 2 => by simp [acc2]
theorem acc2_get {w : World} (p q : List UInt8) {aa ab : Option Addr} {ca cb : Nat} (h1 : Cells w aa (u8s p)) (h2 : Cells w ab (u8s q)) (i : Nat) (h : i < 2) :
    ∃ ai ci li, nth [Value.slice aa p.length ca, Value.slice ab q.length cb] (((i : Nat) : Int).toNat * 1) = some (.slice ai li.length ci) ∧ Cells w ai (u8s li) ∧ acc2 p q (i + 1) = acc2 p q i ++ li := by
  match i, h with
  | 0, _ => exact ⟨aa, ca, p, rfl, h1, rfl⟩
  | 1, _ => exact ⟨ab, cb, q, rfl, h2, rfl⟩
theorem c_concat2 (p q : List UInt8) (hl : p.length + q.length ≤ 1099511627776) {a aa ab : Option Addr} {c ca cb : Nat} (w : World) (H : Cells w a [Value.slice aa p.length ca, Value.slice ab q.length cb]) (h1 : Cells w aa (u8s p)) (h2 : Cells w ab (u8s q)) :
    Cl Try.prog 71 #[.slice a 2 c] w (fun v w' => ∃ a' c', v = .slice a' (p ++ q).length c' ∧ Chg No w w' ∧ New w w' (own 5 1 a' (p ++ q).length c' (u8s (p ++ q)))) := by
  refine f_enter (args := [_]) Try.func71 rfl rfl ?_
  have mm := Mem.nil No w
  refine c_sreg rfl ?_
  refine s1 (r_ass rfl) ?_
  refine wn ?_
  refine c_sreg rfl ?_
  refine s1 (r_asi rfl) ?_
  refine wn ?_
  refine c_seq ?_
  refine c_sreg rfl ?_
  refine s1 (r_mvs rfl) ?_
  refine s1 (r_len rfl) ?_
  refine s1 (r_mvi rfl) ?_
  refine wn ?_
  refine c_block ?_
  refine c_loop (fun k e w' => ∃ i, k + i = 2 ∧ e 0 = .slice a 2 c ∧ e 3 = .int .i64 (acc2 p q i).length ∧ e 9 = .slice a 2 c ∧ e 10 = .int .i64 2 ∧ e 11 = .int .i64 (i : Nat) ∧ Mem w No w' []) 2 ?_ ?_
  · exact ⟨0, rfl, rfl, rfl, rfl, rfl, rfl, mm⟩
  clear mm
  rintro k e w9 ⟨i, hki, h0, h3, h9, h10, h11, mm⟩
  refine c_sreg rfl ?_
  refine s1 (r_lt h11 h10) ?_
  refine wn ?_
  refine c_seq ?_
  refine c_cond rfl (fun h => (c_skip (t_n ?_))) (fun h => (c_exit (t_x (t_x (b_x (t_n ?_))))))
  · have hi : i < 2 := by simp at h; omega
    clear h
    obtain ⟨ai, ci, li, hg, hci, hacc⟩ := acc2_get (ca := ca) (cb := cb) p q h1 h2 i hi
    have hle := acc2_le p q (i + 1)
    rw [hacc, List.length_append] at hle
    refine c_seq ?_
    refine c_block ?_
    refine c_sreg rfl ?_
    refine s1 (r_ix h9 h11 (by omega) (by omega) (H.some hg)) ?_
    refine s1 (r_ldc rfl (mm.ro H) hg) ?_
    refine s1 (r_ass rfl) ?_
    refine wn ?_
    refine c_sreg rfl ?_
    refine s1 (r_mvi h3) ?_
    refine s1 (r_mvs rfl) ?_
    refine s1 (r_len rfl) ?_
    refine s1 (r_add rfl rfl (wi (by omega) (by omega))) ?_
    refine s1 (r_asi rfl) ?_
    refine wn ?_
    refine c_sreg rfl ?_
    refine s1 (r_mvi rfl) ?_
    refine s1 (r_lt rfl rfl) ?_
    refine wn ?_
    refine c_cond rfl (fun h => ?_) (fun h => (c_skip (b_n (t_n ?_))))
    · simp at h; omega
    clear h
    refine c_region rfl ?_
    refine s1 (r_add h11 rfl (wi (by omega) (by omega))) ?_
    refine s1 (r_mvi rfl) ?_
    refine wn (t_n ?_)
    refine ⟨k - 1, by omega, i + 1, by omega, h0, ?_, h9, h10, rfl, mm⟩
    rw [hacc, List.length_append]; rfl
  · have hi : i = 2 := by simp at h; omega
    subst hi
    refine c_sreg rfl ?_
    refine s1 (r_mvi h3) ?_
    refine so (o_c2 rfl rfl (c_grow (p ++ q).length (by rw [List.length_append]; exact hl) _) ?_)
    rintro _ w2 ⟨a2, c2, rfl, hc, hn⟩
    have mm := mm.new hc hn
    refine s1 (r_ass rfl) ?_
    refine wn ?_
    clear hc hn h h3 h9 h10 h11
    refine c_seq ?_
    refine c_sreg rfl ?_
    refine s1 (r_mvs h0) ?_
    refine s1 (r_len rfl) ?_
    refine s1 (r_mvi rfl) ?_
    refine wn ?_
    refine c_block ?_
    refine c_loop (fun k e w' => ∃ i a' c', k + i = 2 ∧ e 6 = .slice a' (acc2 p q i).length c' ∧ e 25 = .slice a 2 c ∧ e 26 = .int .i64 2 ∧ e 27 = .int .i64 (i : Nat) ∧ Mem w No w' [own 5 1 a' (acc2 p q i).length c' (u8s (acc2 p q i))]) 2 ?_ ?_
    · exact ⟨0, _, _, rfl, rfl, rfl, rfl, rfl, mm⟩
    clear mm
    rintro k e w9 ⟨i, a', c', hki, h6, h25, h26, h27, mm⟩
    refine c_sreg rfl ?_
    refine s1 (r_lt h27 h26) ?_
    refine wn ?_
    refine c_seq ?_
    refine c_cond rfl (fun h => (c_skip (t_n ?_))) (fun h => (c_exit (t_x (t_x (b_x (t_n ?_))))))
    · have hi : i < 2 := by simp at h; omega
      clear h
      obtain ⟨ai, ci, li, hg, hci, hacc⟩ := acc2_get (ca := ca) (cb := cb) p q h1 h2 i hi
      have hle := acc2_le p q (i + 1)
      rw [hacc, List.length_append] at hle
      refine c_seq ?_
      refine c_block ?_
      refine c_sreg rfl ?_
      refine s1 (r_ix h25 h27 (by omega) (by omega) (H.some hg)) ?_
      refine s1 (r_ldc rfl (mm.ro H) hg) ?_
      refine s1 (r_ass rfl) ?_
      refine wn ?_
      refine c_region rfl ?_
      refine s1 (r_mvs h6) ?_
      refine s1 (r_mvs rfl) ?_
      refine so (o_ap mm 0 rfl rfl rfl (src_cells (n := li.length) (mm.ro hci) (by rw [u8s_length]; omega) (ones_u8s _) (by decide)) (by omega) (by unfold maxLen; omega) fun a3 c3 w3 mm => ?_)
      refine s1 (r_ass rfl) ?_
      refine wn (b_n (t_n ?_))
      have mm := mm.pk [0] (by decide)
      have h9 := mm.cst1 (n' := (acc2 p q (i + 1)).length) (cs' := u8s (acc2 p q (i + 1))) (by rw [hacc, List.length_append]) (by rw [hacc, u8s_append])
      refine c_region rfl ?_
      refine s1 (r_add h27 rfl (wi (by omega) (by omega))) ?_
      refine s1 (r_mvi rfl) ?_
      refine wn (t_n ?_)
      refine ⟨k - 1, by omega, i + 1, _, _, by omega, ?_, h25, h26, rfl, h9⟩
      rw [hacc, List.length_append]; rfl
    · have hi : i = 2 := by simp at h; omega
      subst hi
      refine c_sreg rfl ?_
      refine s1 (r_mvs h6) ?_
      refine s1 (r_ass rfl) ?_
      refine wn ?_
      exact c_ret (ret1 rfl rfl ⟨_, _, rfl, mm.chg, mm.isNew 0 rfl⟩)

theorem bk_cells {w0 w : World} {F0 : Nat → Prop} {L : List It} (mm : Mem w0 F0 w L) (k : Nat) {b : Nat} {cs : List Value} {T : TypeId} (hk : nth L k = some (bk b cs T)) : Cells w (some ⟨b, 0, none⟩) cs := fun j v hj => by
  have hb := mm.b k hk
  refine ⟨_, rfl, ?_⟩
  have : (⟨b, 0, none⟩ : Addr).add j = ⟨b, j, none⟩ := by unfold Addr.add; split <;> simp_all
  rw [this, cell_of_row w b j _ _ _ hb, List.getElem?_toArray, ← nth_eq]; exact hj
theorem c_seal (b : List UInt8) (hb : b.length ≤ 1000000000000) (v : Value) (w : World) (hs : Sl w v b) : Cl Try.prog 36 #[v] w (fun v w' => ∃ a c, v = .slice a (sealL b).length c ∧ Chg No w w' ∧ New w w' (own 5 1 a (sealL b).length c (u8s (sealL b)))) := by
  have hs' := hs
  obtain ⟨a, c, rfl, hc, H⟩ := hs
  refine f_enter (args := [_]) Try.func36 rfl rfl ?_
  have mm := Mem.nil No w
  refine c_sreg rfl ?_
  refine s1 (r_ass rfl) ?_
  refine wn ?_
  refine c_sreg rfl ?_
  refine s1 (r_mvs rfl) ?_
  refine so (o_c1 rfl (c_sum b (by omega) _ _ ⟨a, c, rfl, hc, mm.ro H⟩) ?_)
  rintro _ w2 ⟨rfl, hc⟩
  have mm := mm.frame hc
  refine so (o_c1 rfl (c_four _ _) ?_)
  rintro _ w3 ⟨rfl, hc⟩
  have mm := mm.frame hc
  refine so (o_al mm fun b4 w4 mm => ?_)
  refine ss (o_sta mm 0 rfl rfl rfl rfl rfl (Nat.le_of_ble_eq_true rfl) fun w5 mm => ?_)
  refine wn ?_
  refine c_sreg rfl ?_
  refine s1 (r_mvs rfl) ?_
  refine s1 (r_sarr rfl) ?_
  refine so (o_bs2 mm rfl rfl rfl rfl fun a6 c6 w6 mm => ?_)
  refine so (o_c1 rfl (c_concat2 b (four (crcSum b)) (by rw [four_length]; omega) _ (mm.c 1 rfl) (mm.ro H) (bk_cells mm 0 rfl)) ?_)
  rintro _ w7 ⟨a7, c7, rfl, hc, hn⟩
  have mm := mm.new hc hn
  refine s1 (r_ass rfl) ?_
  refine wn ?_
  exact c_ret (ret1 rfl rfl ⟨_, _, rfl, mm.chg, mm.isNew 2 rfl⟩)

theorem c_clone (b : List UInt8) (hb : b.length ≤ 1099511627776) (v : Value) (w : World) (hs : Sl w v b) : Cl Try.prog 86 #[v] w (fun v w' => ∃ a c, v = .slice a b.length c ∧ Chg No w w' ∧ New w w' (own 5 1 a b.length c (u8s b))) := by
  obtain ⟨a, c, rfl, hc, H⟩ := hs
  refine f_enter (args := [_]) Try.func86 rfl rfl ?_
  have mm := Mem.nil No w
  refine c_sreg rfl ?_
  refine s1 (r_ass rfl) ?_
  refine wn ?_
  refine c_seq ?_
  refine c_sreg rfl ?_
  refine s1 (r_mvs rfl) ?_
  refine s1 (r_snil rfl rfl) ?_
  refine wn ?_
  refine c_cond rfl (fun h => ?_) (fun h => (c_skip (t_n ?_)))
  · have ha : a = none := by simpa using h
    subst ha
    have hb0 : b = [] := by
      cases b with
      | nil => rfl
      | cons x l => obtain ⟨_, h1, _⟩ := H 0 (u8 x) rfl; cases h1
    subst hb0
    refine c_sreg rfl ?_
    refine s1 (r_ass rfl) ?_
    refine wn ?_
    have mm := mm.nilrow (T := 5) (sz := 1)
    exact c_ret (ret1 rfl rfl ⟨none, 0, rfl, mm.chg, mm.isNew 0 rfl⟩)
  · clear h
    refine c_sreg rfl ?_
    refine so (o_bs0 mm fun a2 c2 w2 mm => ?_)
    refine s1 (r_mvs rfl) ?_
    refine so (o_ap mm 0 rfl rfl rfl (src_cells (n := b.length) (mm.ro H) (by rw [u8s_length]; omega) (ones_u8s _) (by decide)) (by omega) (by unfold maxLen; omega) fun a3 c3 w3 mm => ?_)
    refine s1 (r_ass rfl) ?_
    refine wn ?_
    have mm := mm.pk [0] (by decide)
    have h9 := mm.cst1 (n' := b.length) (cs' := u8s b) (Nat.zero_add _) rfl
    refine c_ret (ret1 rfl rfl ⟨_, _, ?_, mm.chg, h9.isNew 0 rfl⟩)
    show Value.slice _ (0 + b.length) _ = _
    rw [Nat.zero_add]

/-! arrays of four bytes, compared -/
theorem ar4_guard : Try.prog.eqGuardType Try.prog.depth 96 = false := by kernel_rfl
theorem ar4_key : Try.prog.keyTypeAt 2 96 = true := by kernel_rfl
theorem cells96 : Try.prog.cellsOf 96 = 4 := by kernel_rfl
theorem cells5u : Try.prog.cellsOf 5 = 1 := by kernel_rfl
def u8L (b : UInt8) : Lit := .int .u8 b.toNat
theorem lit_u8 {D : Nat} (b : UInt8) : Try.prog.keyLits (D + 1) 5 [u8 b] = some [u8L b] := by
  have h := b.toNat_lt
  unfold Program.keyLits
  rw [Try.underlying5]
  refine if_pos ⟨rfl, ?_⟩
  simp [Lit.wf, IntKind.min, IntKind.max, IntKind.signed, IntKind.bits]
  omega
theorem ar4_lits (b0 b1 b2 b3 : UInt8) : Try.prog.keyLits 3 96 (u8s [b0, b1, b2, b3]) = some [u8L b0, u8L b1, u8L b2, u8L b3] := by
  unfold Program.keyLits
  rw [Try.underlying96]
  simp only [cells5u, cells96]
  rw [if_pos (show (u8s [b0, b1, b2, b3]).length = 4 from rfl)]
  have e0 := lit_u8 (D := 1) b0
  have e1 := lit_u8 (D := 1) b1
  have e2 := lit_u8 (D := 1) b2
  have e3 := lit_u8 (D := 1) b3
  simp [List.range, List.range.loop, u8s, e0, e1, e2, e3]
theorem ar4_eq (x y : List UInt8) (hx : x.length = 4) (hy : y.length = 4) (w : World) : (Op.equalIn 10000 96 (.agg (u8s x).toArray) (.agg (u8s y).toArray)).run Try.prog w = .ok (decide (x = y)) w := by
  match x, hx, y, hy with
  | [a0, a1, a2, a3], _, [b0, b1, b2, b3], _ =>
    refine run_eqa ar4_key (by decide) (by kernel_rfl) (by kernel_rfl) (ar4_lits a0 a1 a2 a3) (ar4_lits b0 b1 b2 b3) ?_
    simp only [List.cons.injEq, and_true, u8L, Lit.int.injEq, true_and]
    have key : ∀ a b : UInt8, ((a.toNat : Int) = (b.toNat : Int)) ↔ a = b := fun a b => ⟨fun h => UInt8.toNat_inj.1 (by omega), fun h => by rw [h]⟩
    rw [key, key, key, key]
/-- What Open gives: the bytes and true, or none and false. -/
def openV (b : List UInt8) : List UInt8 := (openL b).getD []
theorem c_open (b : List UInt8) (hb : b.length ≤ 1099511627776) (v : Value) (w : World) (hs : Sl w v b) : Cl Try.prog 64 #[v] w (fun v w' => ∃ a c, v = .tuple #[.slice a (openV b).length c, .bool (openL b).isSome] ∧ Chg No w w' ∧ New w w' (own 5 1 a (openV b).length c (u8s (openV b)))) := by
  have hs' := hs
  obtain ⟨a, c, rfl, hcc, H⟩ := hs
  refine f_enter (args := [_]) Try.func64 rfl rfl ?_
  have mm := Mem.nil No w
  refine c_sreg rfl ?_
  refine s1 (r_ass rfl) ?_
  refine s1 (r_asb rfl) ?_
  refine wn ?_
  refine c_sreg rfl ?_
  refine s1 (r_mvs rfl) ?_
  refine s1 (r_len rfl) ?_
  refine s1 (r_sub rfl rfl (wi (by omega) (by omega))) ?_
  refine s1 (r_asi rfl) ?_
  refine wn ?_
  have hd : ∀ w', Cells w' a (u8s b) → (!(decide (((b.length : Nat) : Int) - 4 < 0))) = true → Sl w' (.slice a (((b.length : Nat) : Int) - 4).toNat c) (b.take (b.length - 4)) := fun w' hq hh => by
    simp at hh
    have h4 : (((b.length : Nat) : Int) - 4).toNat = b.length - 4 := by omega
    exact ⟨a, c, by rw [h4, List.length_take]; congr 1; omega, by rw [List.length_take]; omega, by rw [u8s, List.map_take]; exact hq.take _⟩
  have hls : (!(decide (((b.length : Nat) : Int) - 4 < 0))) = true → (b.drop (b.length - 4)).length = 4 := fun hh => by simp at hh; rw [List.length_drop]; omega
  have hseg : (!(decide (((b.length : Nat) : Int) - 4 < 0))) = true → seg ((u8s b).drop ((((b.length : Nat) : Int) - 4).toNat * 1)) 0 4 = u8s (b.drop (b.length - 4)) := fun hh => by
    have h1 := hls hh
    simp at hh
    have h4 : (((b.length : Nat) : Int) - 4).toNat = b.length - 4 := by omega
    unfold seg
    rw [h4, Nat.mul_one, List.drop_zero, u8s, ← List.map_drop, List.take_of_length_le]
    · rfl
    · rw [List.length_map, h1]; exact Nat.le_refl _
  refine c_seq ?_
  refine c_sdraw mixed [(0, true), (1, true), (2, true), (3, true), (4, true), (5, true), (8, true), (9, true), (10, true), (11, true), (12, true), (6, false), (7, false), (13, true), (14, true)] [true, true, true, true, true, true, true, true, true, true, true, true, true, true, true] (Sof mm) (by kernel_rfl) rfl rfl (by kernel_rfl) (fun w2 hc => ?_)
  have mm := mm.frame hc
  refine p1 rfl (fun w m => r_mvi rfl) mm ?_
  refine p1 rfl (fun w m => r_lt rfl rfl) mm ?_
  refine p1 rfl (fun w m => r_mvb rfl) mm ?_
  refine pF rfl rfl rfl (fun h w m => r_mvs rfl) mm ?_
  refine pF rfl rfl rfl (fun h w m => r_mvi rfl) mm ?_
  refine pF rfl rfl rfl (fun h w m => r_slh (sel_t h :) (sel_t h :) (by simp at h; omega) (by simp at h; omega)) mm ?_
  refine pF rfl rfl rfl (fun h w m => r_mvs rfl) mm ?_
  refine pF rfl rfl rfl (fun h w m => r_mvi rfl) mm ?_
  refine pF rfl rfl rfl (fun h w m => r_sll (sel_t h :) (sel_t h :) (by simp at h; omega) (by simp at h; omega)) mm ?_
  refine pF rfl rfl rfl (fun h w m => r_s2a (sel_t h :) (by simp at h ⊢; omega)) mm ?_
  refine pF rfl rfl rfl (fun h w m => r_ldce (sel_t h :) (m.ro ((H.sl (n := b.length) (sz := 1) (by rw [u8s_length]; omega) hcc (((b.length : Nat) : Int) - 4).toNat))) (hseg h) (by simp at h; rw [List.length_drop, u8s_length]; omega) (by decide)) mm ?_
  refine pFw (I := Sof mm) rfl rfl rfl mm (fun h => o_c1 (sel_t h :) (c_sum (b.take (b.length - 4)) (by rw [List.length_take]; omega) _ _ (hd _ (mm.ro H) h)) (fun _ _ hh => ⟨hh.1, mm.frame hh.2⟩)) (fun w3 mm => ⟨fun _ => mm, ?_⟩)
  refine pFw (I := Sof mm) rfl rfl rfl mm (fun h => o_c1 (sel_t h :) (c_four _ _) (fun _ _ hh => ⟨hh.1, mm.frame hh.2⟩)) (fun w4 mm => ⟨fun _ => mm, ?_⟩)
  refine pF rfl rfl rfl (fun h w m => r_nea ar4_guard (ar4_eq _ _ rfl (hls h)) (sel_t h :) (sel_t h :)) mm ?_
  refine p1 rfl (fun w m => r_or rfl rfl) mm ?_
  refine pn ?_
  refine c_cond rfl (fun h => ?_) (fun h => (c_skip (t_n ?_)))
  · have hn : openL b = none := by
      unfold openL
      by_cases h4 : b.length < 4
      · rw [if_pos h4]
      · rw [if_neg h4]
        refine if_neg ?_
        intro hq
        rw [hq] at h
        simp at h
        omega
    refine c_sreg rfl ?_
    refine s1 (r_ass rfl) ?_
    refine s1 (r_asb rfl) ?_
    refine wn ?_
    have hv : openV b = [] := by unfold openV; rw [hn]; rfl
    rw [hv, hn]
    have mm := mm.nilrow (T := 5) (sz := 1)
    exact c_ret (ret2 rfl rfl rfl ⟨none, 0, rfl, mm.chg, mm.isNew 0 rfl⟩)
  · have h4 : ¬ b.length < 4 ∧ four (crcSum (b.take (b.length - 4))) = b.drop (b.length - 4) := by
      simp at h
      have h4 : ¬ b.length < 4 := by omega
      exact ⟨h4, h.2⟩
    have hn : openL b = some (b.take (b.length - 4)) := by
      unfold openL
      rw [if_neg h4.1, if_pos h4.2]
    have hv : openV b = b.take (b.length - 4) := by unfold openV; rw [hn]; rfl
    rw [hv, hn]
    clear h
    refine c_sreg rfl ?_
    refine s1 (r_mvs rfl) ?_
    refine s1 (r_mvi rfl) ?_
    refine s1 (r_slh rfl rfl (by omega) (by omega)) ?_
    refine so (o_c1 rfl (c_clone (b.take (b.length - 4)) (by rw [List.length_take]; omega) _ _ (hd _ (mm.ro H) (by simp; omega))) ?_)
    rintro _ w5 ⟨a5, c5, rfl, hc, hn'⟩
    have mm := mm.new hc hn'
    refine s1 (r_ass rfl) ?_
    refine s1 (r_asb rfl) ?_
    refine wn ?_
    exact c_ret (ret2 rfl rfl rfl ⟨_, _, rfl, mm.chg, mm.isNew 0 rfl⟩)
end Go.Proofs.Ytgdbbaggkoillaa

