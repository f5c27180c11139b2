/- varint.Put, event.Put and its closures: walks. -/
import Derived.Test.YtgdbbaggkoillaaEw
namespace Go.Proofs.Ytgdbbaggkoillaa
open K
set_option maxRecDepth 100000

structure EvOk (x : Ev) : Prop where
  r0 : 0 ≤ x.r
  r5 : x.r < 5
  n1 : 1 ≤ x.n
  n2 : x.n ≤ 1048576
  own : x.c.get x.r.toNat = x.n - 1
  h1 : 1 ≤ x.h
  h2 : x.h ≤ 16777216
  c : ∀ i, i < 5 → 0 ≤ x.c.get i ∧ x.c.get i ≤ 1048576
  k1 : 1 ≤ x.kind
  k5 : x.kind ≤ 5
  key1 : 1 ≤ x.key.length
  key8 : x.key.length ≤ 8
  keya : x.key.all okByte = true
  l0 : 0 ≤ x.label
  l2 : x.label < 2
  v12 : x.val.length ≤ 12
  v1 : 2 < x.kind → 1 ≤ x.val.length
  bare : x.kind ≤ 2 → x.label = 0 ∧ x.val = []
theorem evMay_ok {x : Ev} (h : evMay x = 0) : EvOk x := by
  unfold evMay at h
  by_cases hh : evHead x = true
  · rw [if_pos hh] at h
    simp only [evHead, Bool.and_eq_true, decide_eq_true_eq] at hh
    obtain ⟨⟨⟨⟨⟨⟨⟨g1, g2⟩, g3⟩, g4⟩, g5⟩, g6⟩, g7⟩, g8⟩ := hh
    have g9 := (Clk.all_iff _ _).1 g8
    have gc : ∀ i, i < 5 → 0 ≤ x.c.get i ∧ x.c.get i ≤ 1048576 := fun i hi => by
      have := g9 i hi
      simpa [inEv] using this
    have h : (if x.kind < 1 ∨ 5 < x.kind then 1 else if tKey x.key ≠ 0 then tKey x.key else if x.kind ≤ 2 then tBare x.ed else if tLabel x.label ≠ 0 then tLabel x.label else tValue x.val) = (0 : Int) := h
    by_cases q1 : x.kind < 1 ∨ 5 < x.kind
    · rw [if_pos q1] at h; omega
    rw [if_neg q1] at h
    by_cases q2 : tKey x.key ≠ 0
    · rw [if_pos q2] at h; exact absurd h q2
    rw [if_neg q2] at h
    have q3 : keyOk x.key = true := by
      unfold tKey at q2
      by_cases q : keyOk x.key = true
      · exact q
      · rw [if_neg q] at q2; simp at q2
    simp only [keyOk, Bool.and_eq_true, decide_eq_true_eq] at q3
    obtain ⟨⟨q4, q5⟩, q6⟩ := q3
    by_cases q7 : x.kind ≤ 2
    · rw [if_pos q7] at h
      have h : (if x.label ≠ 0 then 11 else if x.val ≠ [] then 12 else 0) = (0 : Int) := h
      by_cases q8 : x.label ≠ 0
      · rw [if_pos q8] at h; omega
      rw [if_neg q8] at h
      by_cases q9 : x.val ≠ []
      · rw [if_pos q9] at h; omega
      have q8 : x.label = 0 := by omega
      have q9 : x.val = [] := Classical.byContradiction q9
      exact ⟨g1, g2, g3, g4, g5, g6, g7, gc, by omega, by omega, q4, q5, q6, by omega, by omega, by rw [q9]; decide, by omega, fun _ => ⟨q8, q9⟩⟩
    · rw [if_neg q7] at h
      by_cases q8 : tLabel x.label ≠ 0
      · rw [if_pos q8] at h; exact absurd h q8
      rw [if_neg q8] at h
      have q9 : 0 ≤ x.label ∧ x.label < 2 := by
        unfold tLabel at q8
        by_cases q : 0 ≤ x.label ∧ x.label < 2
        · exact q
        · rw [if_neg q] at q8; simp at q8
      have q10 : 1 ≤ x.val.length ∧ x.val.length ≤ 12 := by
        unfold tValue at h
        by_cases q : 1 ≤ x.val.length ∧ x.val.length ≤ 12
        · exact q
        · rw [if_neg q] at h; omega
      exact ⟨g1, g2, g3, g4, g5, g6, g7, gc, by omega, by omega, q4, q5, q6, q9.1, q9.2, q10.2, fun _ => q10.1, by omega⟩
  · rw [if_neg hh] at h; omega
def ctxB (x : Ev) (i : Nat) : List UInt8 := ((List.range i).filter (fun i : Nat => decide ((i : Int) ≠ x.r))).flatMap (fun i : Nat => vput (x.c.get i).toNat)
theorem ctxB_succ (x : Ev) (i : Nat) : ctxB x (i + 1) = ctxB x i ++ (if (i : Int) ≠ x.r then vput (x.c.get i).toNat else []) := by
  unfold ctxB
  rw [List.range_succ, List.filter_append, List.flatMap_append]
  by_cases h : (i : Int) = x.r <;> simp [h]

theorem K.Mem.cast1 {w0 w : World} {F0 : Nat → Prop} {T : TypeId} {sz n n' c : Nat} {a : Option Addr} {cs cs' : List Value} (h : Mem w0 F0 w [own T sz a n c cs]) (hn : n = n') (hc : cs = cs') : Mem w0 F0 w [own T sz a n' c cs'] := by subst hn; subst hc; exact h

theorem c_vput (m : Nat) (hm : m < 2 ^ 64) (w : World) : Cl Try.prog 46 #[.int .u64 m] w (fun v w' => ∃ a c, v = .slice a (vput m).length c ∧ Chg No w w' ∧ New w w' (own 5 1 a (vput m).length c (u8s (vput m)))) := by
  have hl := vput_len10 m hm
  refine f_enter (args := [_]) Try.func46 rfl rfl ?_
  refine c_sreg rfl ?_
  refine s1 (r_ass rfl) ?_
  refine wn ?_
  refine c_sreg rfl ?_
  refine s1 (r_ass rfl) ?_
  refine wn ?_
  have mm : Mem w No w [own 5 1 none 0 0 []] := (Mem.nil No w).nilrow
  refine c_seq ?_
  refine c_block ?_
  refine c_loop (fun k e w' => ∃ (x : Nat) (a : Option Addr) (c : Nat) (pre : List UInt8), k = x ∧ e 0 = .int .u64 x ∧ e 3 = .slice a pre.length c ∧ Mem w No w' [own 5 1 a pre.length c (u8s pre)] ∧ pre ++ vput x = vput m) m ?_ ?_
  · exact ⟨m, none, 0, [], rfl, rfl, rfl, mm, rfl⟩
  rintro k e w' ⟨x, a, c, pre, rfl, h0, h3, mm, hp⟩
  have hpl : pre.length + (vput k).length ≤ 10 := by rw [← hp, List.length_append] at hl; exact hl
  refine c_seq ?_
  refine c_sreg rfl ?_
  refine s1 (r_mvi h0) ?_
  refine s1 (r_ge rfl rfl) ?_
  refine wn ?_
  refine c_cond rfl (fun h => (c_skip (t_n ?_))) (fun h => (c_exit (t_x (t_x (b_x (t_n ?_))))))
  · have hk : 128 ≤ k := by simp at h; omega
    have hs : vput k = UInt8.ofNat (k % 128 + 128) :: vput (k / 128) := by rw [vput, if_neg (by omega)]
    refine c_seq ?_
    refine c_block ?_
    refine c_region rfl ?_
    refine s1 (r_mvs h3) ?_
    refine s1 (r_mvi h0) ?_
    refine s1 (r_cv rfl rfl) ?_
    refine s1 (r_bor rfl rfl rfl) ?_
    refine so (o_bi1 mm rfl fun a2 c2 w2 mm => ?_)
    refine so (o_ap mm 0 rfl rfl rfl (src_own mm 1 rfl rfl) (by omega) (by unfold maxLen; omega) fun a3 c3 w3 mm => ?_)
    refine s1 (r_ass rfl) ?_
    refine wn (b_n (t_n ?_))
    refine c_region rfl ?_
    refine s1 (r_mvi h0) ?_
    refine s1 (r_shr rfl rfl (by decide) rfl) ?_
    refine s1 (r_asi rfl) ?_
    refine wn (t_n ?_)
    have h2 := mm.pk [0] (by decide)
    have hl2 : (pre ++ [UInt8.ofNat (k % 128 + 128)]).length = pre.length + 1 := by simp
    rw [u8_more] at h2
    have h3 := h2.cast1 (n' := (pre ++ [UInt8.ofNat (k % 128 + 128)]).length) (cs' := u8s (pre ++ [UInt8.ofNat (k % 128 + 128)])) hl2.symm (u8s_append pre [UInt8.ofNat (k % 128 + 128)]).symm
    refine ⟨k / 128, by omega, k / 128, _, _, pre ++ [UInt8.ofNat (k % 128 + 128)], rfl, ?_, ?_, h3, ?_⟩
    · exact congrArg (Value.int .u64) (by simp [IntKind.bits]; first | exact (Int.natCast_ediv k 128) | exact ((Int.fdiv_eq_ediv_of_nonneg (k : Int) (b := 128) (by decide)).trans (Int.natCast_ediv k 128).symm).symm | exact (Int.fdiv_eq_ediv_of_nonneg (k : Int) (b := 128) (by decide)).trans (Int.natCast_ediv k 128).symm)
    · rw [hl2]; rfl
    · rw [List.append_assoc, ← hp, hs]; rfl
  · have hk : k < 128 := by simp at h; omega
    have hs : vput k = [UInt8.ofNat k] := by rw [vput, if_pos hk]
    rw [hs, List.length_singleton] at hpl
    refine c_sreg rfl ?_
    refine s1 (r_mvs h3) ?_
    refine s1 (r_mvi h0) ?_
    refine s1 (r_cv rfl rfl) ?_
    refine so (o_bi1 mm rfl fun a4 c4 w4 mm => ?_)
    refine so (o_ap mm 0 rfl rfl rfl (src_own mm 1 rfl rfl) (by omega) (by unfold maxLen; omega) fun a5 c5 w5 mm => ?_)
    refine s1 (r_ass rfl) ?_
    refine wn ?_
    have h2 := mm.pk [0] (by decide)
    rw [u8_low k hk] at h2
    have hz : vput m = pre ++ [UInt8.ofNat k] := by rw [← hp, hs]
    have hl2 : (pre ++ [UInt8.ofNat k]).length = pre.length + 1 := by simp
    have h3 := h2.cast1 (n' := (pre ++ [UInt8.ofNat k]).length) (cs' := u8s (pre ++ [UInt8.ofNat k])) hl2.symm (u8s_append pre [UInt8.ofNat k]).symm
    rw [hz]
    refine c_ret (ret1 rfl rfl ⟨_, _, ?_, mm.chg, h3.isNew 0 rfl⟩)
    rw [hl2]; rfl

theorem c_ePut1 {w0 w : World} {F0 : Nat → Prop} {L : List It} (mm0 : Mem w0 F0 w L) (k k' : Nat) (x : Int) (hx : 0 ≤ x) (hx' : x ≤ 9223372036854775807) {bo c : Nat} {a : Option Addr} {pre : List UInt8}
    (hk : nth L k = some (bk bo [.slice a pre.length c] 28)) (hk' : nth L k' = some (own 5 1 a pre.length c (u8s pre))) (hkk : k ≠ k') (hlen : pre.length ≤ 1000000) :
    Cl Try.prog 45 #[.int .i64 x, .pointer (some ⟨bo, 0, none⟩)] w (fun v w' => v = .tuple #[] ∧ ∃ a' c', Mem w0 F0 w' (setN (setN L k (bk bo [.slice a' (pre ++ vput x.toNat).length c'] 28)) k' (own 5 1 a' (pre ++ vput x.toNat).length c' (u8s (pre ++ vput x.toNat))))) := by
  have mm := mm0.pick2 k k' hk hk' hkk
  have hl := vput_len10 x.toNat (by omega)
  refine f_enter (args := [_, _]) Try.func45 rfl rfl ?_
  refine c_draw mixed [(0, true), (1, true), (2, true), (3, false), (4, false), (5, false)] [true, true, true, true, false, false] (Sof mm) (by kernel_rfl) rfl rfl (by kernel_rfl) (fun w2 hc => ?_)
  have mm := mm.frame hc
  refine p1 rfl (fun w m => r_ld rfl (m.b 0 rfl) rfl) mm ?_
  refine p1 rfl (fun w m => r_mvi rfl) mm ?_
  refine p1 rfl (fun w m => r_cv rfl (wu64n hx hx')) mm ?_
  refine po rfl (o_c1 rfl (c_vput x.toNat (by omega) _) ?_)
  rintro _ w3 ⟨a3, c3, rfl, hc, hn⟩
  have mm := mm.new hc hn
  refine ⟨fun _ => mm.sub [0, 1] _ (by decide) rfl, ?_⟩
  refine po rfl (o_ap mm 1 rfl rfl rfl (src_own mm 2 rfl (ones_u8s _)) (by omega) (by unfold maxLen; omega) fun a4 c4 w4 mm => ⟨fun h => absurd rfl h, ?_⟩)
  refine ps rfl (o_st mm 0 rfl rfl rfl rfl rfl fun w5 mm => ⟨fun h => absurd rfl h, ?_⟩)
  refine pn (body_n ?_)
  have h2 := mm0.lift2 k k' hk hk' hkk (mm.sub [0, 1] _ (by decide) rfl)
  exact ret0 rfl ⟨rfl, _, _, by rw [List.length_append, u8s_append]; exact h2⟩
theorem c_ePut2 {w0 w : World} {F0 : Nat → Prop} {L : List It} (mm0 : Mem w0 F0 w L) (k k' : Nat) (x : List UInt8) (hx : x.length ≤ 1000) {bo c : Nat} {a : Option Addr} {pre : List UInt8}
    (hk : nth L k = some (bk bo [.slice a pre.length c] 28)) (hk' : nth L k' = some (own 5 1 a pre.length c (u8s pre))) (hkk : k ≠ k') (hlen : pre.length ≤ 1000000) :
    Cl Try.prog 47 #[str x, .pointer (some ⟨bo, 0, none⟩)] w (fun v w' => v = .tuple #[] ∧ ∃ a' c', Mem w0 F0 w' (setN (setN L k (bk bo [.slice a' (pre ++ UInt8.ofNat x.length :: x).length c'] 28)) k' (own 5 1 a' (pre ++ UInt8.ofNat x.length :: x).length c' (u8s (pre ++ UInt8.ofNat x.length :: x))))) := by
  have mm := mm0.pick2 k k' hk hk' hkk
  refine f_enter (args := [_, _]) Try.func47 rfl rfl ?_
  refine c_region rfl ?_
  refine s1 (r_ld rfl (mm.b 0 rfl) rfl) ?_
  refine s1 (r_mvt rfl) ?_
  refine s1 (r_slen rfl) ?_
  refine s1 (r_cv rfl rfl) ?_
  refine so (o_bi1 mm rfl fun a2 c2 w2 mm => ?_)
  refine so (o_ap mm 1 rfl rfl rfl (src_own mm 2 rfl rfl) (by omega) (by unfold maxLen; omega) fun a3 c3 w3 mm => ?_)
  refine s1 (r_mvt rfl) ?_
  refine so (o_ap mm 1 rfl rfl rfl src_str (by omega) (by unfold maxLen; omega) fun a4 c4 w4 mm => ?_)
  refine ss (o_st mm 0 rfl rfl rfl rfl rfl fun w5 mm => ?_)
  refine wn (body_n ?_)
  have h2 := mm.pk [0, 1] (by decide)
  rw [u8_any] at h2
  have h3 := mm0.lift2 k k' hk hk' hkk h2
  have e1 : (pre ++ UInt8.ofNat x.length :: x).length = pre.length + 1 + x.length := by simp; omega
  have e2 : u8s (pre ++ UInt8.ofNat x.length :: x) = u8s pre ++ [u8 (UInt8.ofNat x.length)] ++ u8s x := by simp [u8s]
  exact ret0 rfl ⟨rfl, _, _, by rw [e1, e2]; exact h3⟩
theorem K.Mem.cast3 {w0 w : World} {F0 : Nat → Prop} {I : It} {T T' : TypeId} {sz n n' c b : Nat} {a : Option Addr} {cs cs' : List Value} (h : Mem w0 F0 w [I, own T sz a n c cs, bk b [.slice a n c] T']) (hn : n = n') (hc : cs = cs') : Mem w0 F0 w [I, own T sz a n' c cs', bk b [.slice a n' c] T'] := by subst hn; subst hc; exact h

theorem c_ePut (x : Ev) (w : World) : Cl Try.prog 20 #[.agg (evC x).toArray] w (fun v w' => ∃ a c, v = .tuple #[.slice a (if evMay x = 0 then putE x else []).length c, .int .i64 (evMay x)] ∧ Chg No w w' ∧ New w w' (own 5 1 a (if evMay x = 0 then putE x else []).length c (u8s (if evMay x = 0 then putE x else [])))) := by
  refine f_enter (args := [_]) Try.func20 rfl rfl ?_
  have mm := Mem.nil No w
  refine c_sreg rfl ?_
  refine so (o_bxa mm rfl fun b2 w2 mm => ?_)
  refine s1 (r_ass rfl) ?_
  refine s1 (r_asi rfl) ?_
  refine wn ?_
  refine c_seq ?_
  refine c_sreg rfl ?_
  refine s1 (r_lda rfl (mm.b 0 rfl) rfl) ?_
  refine so (o_c1 rfl (c_may x _) ?_)
  rintro _ w3 ⟨rfl, hc⟩
  have mm := mm.frame hc
  refine s1 (r_asi rfl) ?_
  refine wn ?_
  refine c_sreg rfl ?_
  refine s1 (r_mvi rfl) ?_
  refine s1 (r_ne rfl rfl) ?_
  refine wn ?_
  refine c_cond rfl (fun h => ?_) (fun h => (c_skip (t_n ?_)))
  · have hn : evMay x ≠ 0 := by simp at h; exact h
    refine c_sreg rfl ?_
    refine s1 (r_mvi rfl) ?_
    refine s1 (r_ass rfl) ?_
    refine s1 (r_asi rfl) ?_
    refine wn ?_
    rw [if_neg hn]
    have mm := mm.nilrow (T := 5) (sz := 1)
    exact c_ret (ret2 rfl rfl rfl ⟨none, 0, rfl, mm.chg, mm.isNew 1 rfl⟩)
  have hz : evMay x = 0 := by simp at h; exact h
  have hk := evMay_ok hz
  rw [if_pos hz, hz]
  refine c_sreg rfl ?_
  refine s1 (r_fa rfl) ?_
  refine s1 (r_ld rfl (mm.b 0 rfl) rfl) ?_
  refine s1 (r_cv rfl rfl) ?_
  refine s1 (r_fa rfl) ?_
  refine s1 (r_ld rfl (mm.b 0 rfl) rfl) ?_
  refine s1 (r_cv rfl rfl) ?_
  refine so (o_bi2 mm rfl rfl fun a4 c4 w4 mm => ?_)
  refine so (o_al mm fun b5 w5 mm => ?_)
  refine ss (o_st mm 2 rfl rfl rfl rfl rfl fun w6 mm => ?_)
  refine wn ?_
  refine c_sreg rfl ?_
  refine s1 (r_fn1 rfl) ?_
  refine s1 (r_asf rfl) ?_
  refine wn ?_
  refine c_sreg rfl ?_
  refine s1 (r_fn1 rfl) ?_
  refine s1 (r_asf rfl) ?_
  refine wn ?_
  have mm := mm.pk [0, 1, 2] (by decide)
  rw [u8_int _ (by have := hk.k1; omega), u8_int _ hk.r0] at mm
  have hl := vput_len10 x.n.toNat (by have := hk.n2; omega)
  refine c_sreg rfl ?_
  refine s1 (r_mvf rfl) ?_
  refine s1 (r_fa rfl) ?_
  refine s1 (r_ld rfl (mm.b 0 rfl) rfl) ?_
  refine so (o_f11 rfl rfl (c_ePut1 (pre := [UInt8.ofNat x.kind.toNat, UInt8.ofNat x.r.toNat]) mm 2 1 x.n (by have := hk.n1; omega) (by have := hk.n2; omega) rfl rfl (by decide) (by simp)) ?_)
  rintro _ w7 ⟨rfl, a7, c7, mm⟩
  refine wn ?_
  have mm := mm.pk [0, 1, 2] (by decide)
  have hp4 : ([UInt8.ofNat x.kind.toNat, UInt8.ofNat x.r.toNat] ++ vput x.n.toNat).length ≤ 12 := by simp; omega
  refine c_seq ?_
  refine c_sreg rfl ?_
  refine s1 (r_fa rfl) ?_
  refine s1 (r_lda rfl (mm.b 0 rfl) rfl) ?_
  refine s1 (r_mvi rfl) ?_
  refine wn ?_
  refine c_block ?_
  refine c_loop (fun k e w' => ∃ (i : Nat) (pre : List UInt8) (a : Option Addr) (c : Nat), k + i = 5 ∧ e 1 = .pointer (some ⟨b2, 0, none⟩) ∧ e 5 = .pointer (some ⟨b5, 0, none⟩) ∧ e 6 = .func (.func 45) #[] #[.pointer (some ⟨b5, 0, none⟩)] ∧ e 7 = .func (.func 47) #[] #[.pointer (some ⟨b5, 0, none⟩)] ∧ e 29 = .agg (clkC x.c).toArray ∧ e 30 = .int .i64 i ∧ Mem w No w' [bk b2 (evC x) 25, own 5 1 a pre.length c (u8s pre), bk b5 [.slice a pre.length c] 28] ∧ pre = [UInt8.ofNat x.kind.toNat, UInt8.ofNat x.r.toNat] ++ vput x.n.toNat ++ ctxB x i ∧ pre.length ≤ 12 + 10 * i) 5 ?_ ?_
  · exact ⟨0, _, _, _, rfl, rfl, rfl, rfl, rfl, rfl, rfl, mm, (List.append_nil _).symm, hp4⟩
  rintro k e w9 ⟨i, pre, a, c, hki, h1, h5, h6, h7, h29, h30, mm, hpre, hlen⟩
  refine c_sreg rfl ?_
  refine s1 (r_lt h30 rfl) ?_
  refine wn ?_
  refine c_seq ?_
  refine c_cond rfl (fun h => (c_skip (t_n ?_))) (fun h => (c_exit (t_x (t_x (b_x (t_n ?_))))))
  · have hi : i < 5 := by simp at h; omega
    clear h
    refine c_seq ?_
    refine c_block ?_
    refine c_sreg rfl ?_
    refine s1 (r_mvi h30) ?_
    refine s1 (r_ixv h29 h30 (by omega) (by omega) (nth_clk x.c _ (by omega))) ?_
    refine s1 (r_asi rfl) ?_
    refine s1 (r_asi rfl) ?_
    refine wn ?_
    refine c_sreg rfl ?_
    refine s1 (r_mvi rfl) ?_
    refine s1 (r_fa h1) ?_
    refine s1 (r_ld rfl (mm.b 0 rfl) rfl) ?_
    refine s1 (r_ne rfl rfl) ?_
    refine wn ?_
    refine c_cond rfl (fun h => ?_) (fun h => (c_skip (b_n (t_n ?_))))
    · have hne : (i : Int) ≠ x.r := by simpa using h
      have hci := hk.c i hi
      have hl2 := vput_len10 (x.c.get i).toNat (by omega)
      refine c_region rfl ?_
      refine s1 (r_mvf h6) ?_
      refine s1 (r_mvi rfl) ?_
      refine so (o_f11 rfl rfl (c_ePut1 mm 2 1 (x.c.get i) hci.1 (by omega) rfl rfl (by decide) (by omega)) ?_)
      rintro _ w8 ⟨rfl, a8, c8, mm⟩
      refine wn (b_n (t_n ?_))
      refine c_region rfl ?_
      refine s1 (r_add h30 rfl (wi (by omega) (by omega))) ?_
      refine s1 (r_mvi rfl) ?_
      refine wn (t_n ?_)
      refine ⟨k - 1, by omega, i + 1, _, _, _, by omega, h1, h5, h6, h7, h29, rfl, mm.pk [0, 1, 2] (by decide), ?_, ?_⟩
      · rw [ctxB_succ, if_pos hne, ← List.append_assoc, ← hpre]
      · rw [List.length_append]; omega
    · have hne : ¬ (i : Int) ≠ x.r := by simpa using h
      refine c_region rfl ?_
      refine s1 (r_add h30 rfl (wi (by omega) (by omega))) ?_
      refine s1 (r_mvi rfl) ?_
      refine wn (t_n ?_)
      refine ⟨k - 1, by omega, i + 1, _, _, _, by omega, h1, h5, h6, h7, h29, rfl, mm, ?_, by omega⟩
      rw [ctxB_succ, if_neg hne, List.append_nil]; exact hpre
  · have hi : i = 5 := by simp at h; omega
    subst hi
    clear h
    have hl3 := vput_len10 x.h.toNat (by have := hk.h2; omega)
    refine c_sreg rfl ?_
    refine s1 (r_mvf h6) ?_
    refine s1 (r_fa h1) ?_
    refine s1 (r_ld rfl (mm.b 0 rfl) rfl) ?_
    refine so (o_f11 rfl rfl (c_ePut1 mm 2 1 x.h (by have := hk.h1; omega) (by have := hk.h2; omega) rfl rfl (by decide) (by omega)) ?_)
    rintro _ w9 ⟨rfl, a9, c9, mm⟩
    refine wn ?_
    have hlen2 : (pre ++ vput x.h.toNat).length ≤ 100 := by rw [List.length_append]; omega
    refine c_sreg rfl ?_
    refine s1 (r_mvf h7) ?_
    refine s1 (r_fa h1) ?_
    refine s1 (r_ld rfl (mm.b 0 rfl) rfl) ?_
    refine so (o_f11 rfl rfl (c_ePut2 mm 2 1 x.key (by have := hk.key8; omega) rfl rfl (by decide) (by omega)) ?_)
    rintro _ w10 ⟨rfl, a10, c10, mm⟩
    refine wn ?_
    have hlen3 : (pre ++ vput x.h.toNat ++ UInt8.ofNat x.key.length :: x.key).length ≤ 120 := by rw [List.length_append, List.length_cons]; have := hk.key8; omega
    have mm := mm.pk [0, 1, 2] (by decide)
    have hput : putE x = pre ++ vput x.h.toNat ++ UInt8.ofNat x.key.length :: x.key ++ (if 2 < x.kind then UInt8.ofNat x.label.toNat :: UInt8.ofNat x.val.length :: x.val else []) := by rw [hpre]; rfl
    refine c_seq ?_
    refine c_sreg rfl ?_
    refine s1 (r_fa h1) ?_
    refine s1 (r_ld rfl (mm.b 0 rfl) rfl) ?_
    refine s1 (r_gt rfl rfl) ?_
    refine wn ?_
    refine c_cond rfl (fun h => ?_) (fun h => (c_skip (t_n ?_)))
    · have hk2 : 2 < x.kind := by simpa using h
      rw [if_pos hk2] at hput
      refine c_sreg rfl ?_
      refine s1 (r_ld h5 (mm.b 2 rfl) rfl) ?_
      refine s1 (r_fa h1) ?_
      refine s1 (r_ld rfl (mm.b 0 rfl) rfl) ?_
      refine s1 (r_cv rfl rfl) ?_
      refine so (o_bi1 mm rfl fun a11 c11 w11 mm => ?_)
      refine so (o_ap mm 1 rfl rfl rfl (src_own mm 3 rfl rfl) (by omega) (by unfold maxLen; omega) fun a12 c12 w12 mm => ?_)
      refine ss (o_st mm 2 rfl h5 rfl rfl rfl fun w13 mm => ?_)
      refine wn ?_
      have mm := mm.pk [0, 1, 2] (by decide)
      rw [u8_int _ hk.l0] at mm
      have q1 : (pre ++ vput x.h.toNat ++ UInt8.ofNat x.key.length :: x.key ++ [UInt8.ofNat x.label.toNat]).length = (pre ++ vput x.h.toNat ++ UInt8.ofNat x.key.length :: x.key).length + 1 := by rw [List.length_append, List.length_singleton]
      have q2 := u8s_append (pre ++ vput x.h.toNat ++ UInt8.ofNat x.key.length :: x.key) [UInt8.ofNat x.label.toNat]
      have mm := mm.cast3 q1.symm q2.symm
      refine c_region rfl ?_
      refine s1 (r_mvf h7) ?_
      refine s1 (r_fa h1) ?_
      refine s1 (r_ld rfl (mm.b 0 rfl) rfl) ?_
      refine so (o_f11 rfl rfl (c_ePut2 mm 2 1 x.val (by have := hk.v12; omega) rfl rfl (by decide) (by omega)) ?_)
      rintro _ w14 ⟨rfl, a14, c14, mm⟩
      refine wn (t_n ?_)
      have mm := mm.pk [0, 1, 2] (by decide)
      have hput : putE x = pre ++ vput x.h.toNat ++ UInt8.ofNat x.key.length :: x.key ++ [UInt8.ofNat x.label.toNat] ++ UInt8.ofNat x.val.length :: x.val := by rw [hput]; simp
      rw [hput]
      refine c_sreg rfl ?_
      refine s1 (r_ld h5 (mm.b 2 rfl) rfl) ?_
      refine s1 (r_ass rfl) ?_
      refine s1 (r_asi rfl) ?_
      refine wn ?_
      exact c_ret (ret2 rfl rfl rfl ⟨_, _, rfl, mm.chg, mm.isNew 1 rfl⟩)
    · have hk2 : ¬ 2 < x.kind := by simpa using h
      rw [if_neg hk2, List.append_nil] at hput
      rw [hput]
      refine c_sreg rfl ?_
      refine s1 (r_ld h5 (mm.b 2 rfl) rfl) ?_
      refine s1 (r_ass rfl) ?_
      refine s1 (r_asi rfl) ?_
      refine wn ?_
      exact c_ret (ret2 rfl rfl rfl ⟨_, _, rfl, mm.chg, mm.isNew 1 rfl⟩)
end Go.Proofs.Ytgdbbaggkoillaa

