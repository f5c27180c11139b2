/- varint.Put, event.Put and its closures: walks. -/
import Derived.Test.YtbcpabfemejlgaaM4
import Derived.Test.YtbcpabfemejlgaaM3
namespace Go.Proofs.Ytbcpabfemejlgaa
open K
set_option maxRecDepth 100000

structure EvOk (x : Ev) : Prop where
  r0 : 0 ≤ x.r
  r5 : x.r < 5
  n1 : 1 ≤ x.n
  n2 : x.n ≤ 1048576
  own : x.c.get x.r.toNat = x.n - 1
  h1 : 1 ≤ x.h
  h2 : x.h ≤ 16777216
  c : ∀ i, i < 5 → 0 ≤ x.c.get i ∧ x.c.get i ≤ 1048576
  k1 : 1 ≤ x.kind
  k5 : x.kind ≤ 5
  key1 : 1 ≤ x.key.length
  key8 : x.key.length ≤ 8
  keya : x.key.all okByte = true
  l0 : 0 ≤ x.label
  l2 : x.label < 2
  v12 : x.val.length ≤ 12
  v1 : 2 < x.kind → 1 ≤ x.val.length
  bare : x.kind ≤ 2 → x.label = 0 ∧ x.val = []
theorem evMay_ok {x : Ev} (h : evMay x = 0) : EvOk x := by
  unfold evMay at h
  by_cases hh : evHead x = true
  · rw [if_pos hh] at h
    simp only [evHead, Bool.and_eq_true, decide_eq_true_eq] at hh
    obtain ⟨⟨⟨⟨⟨⟨⟨g1, g2⟩, g3⟩, g4⟩, g5⟩, g6⟩, g7⟩, g8⟩ := hh
    have g9 := (Clk.all_iff _ _).1 g8
    have gc : ∀ i, i < 5 → 0 ≤ x.c.get i ∧ x.c.get i ≤ 1048576 := fun i hi => by
      have := g9 i hi
      simpa [inEv] using this
    have h : (if x.kind < 1 ∨ 5 < x.kind then 1 else if tKey x.key ≠ 0 then tKey x.key else if x.kind ≤ 2 then tBare x.ed else if tLabel x.label ≠ 0 then tLabel x.label else tValue x.val) = (0 : Int) := h
    by_cases q1 : x.kind < 1 ∨ 5 < x.kind
    · rw [if_pos q1] at h; omega
    rw [if_neg q1] at h
    by_cases q2 : tKey x.key ≠ 0
    · rw [if_pos q2] at h; exact absurd h q2
    rw [if_neg q2] at h
    have q3 : keyOk x.key = true := by
      unfold tKey at q2
      by_cases q : keyOk x.key = true
      · exact q
      · rw [if_neg q] at q2; simp at q2
    simp only [keyOk, Bool.and_eq_true, decide_eq_true_eq] at q3
    obtain ⟨⟨q4, q5⟩, q6⟩ := q3
    by_cases q7 : x.kind ≤ 2
    · rw [if_pos q7] at h
      have h : (if x.label ≠ 0 then 11 else if x.val ≠ [] then 12 else 0) = (0 : Int) := h
      by_cases q8 : x.label ≠ 0
      · rw [if_pos q8] at h; omega
      rw [if_neg q8] at h
      by_cases q9 : x.val ≠ []
      · rw [if_pos q9] at h; omega
      have q8 : x.label = 0 := by omega
      have q9 : x.val = [] := Classical.byContradiction q9
      exact ⟨g1, g2, g3, g4, g5, g6, g7, gc, by omega, by omega, q4, q5, q6, by omega, by omega, by rw [q9]; decide, by omega, fun _ => ⟨q8, q9⟩⟩
    · rw [if_neg q7] at h
      by_cases q8 : tLabel x.label ≠ 0
      · rw [if_pos q8] at h; exact absurd h q8
      rw [if_neg q8] at h
      have q9 : 0 ≤ x.label ∧ x.label < 2 := by
        unfold tLabel at q8
        by_cases q : 0 ≤ x.label ∧ x.label < 2
        · exact q
        · rw [if_neg q] at q8; simp at q8
      have q10 : 1 ≤ x.val.length ∧ x.val.length ≤ 12 := by
        unfold tValue at h
        by_cases q : 1 ≤ x.val.length ∧ x.val.length ≤ 12
        · exact q
        · rw [if_neg q] at h; omega
      exact ⟨g1, g2, g3, g4, g5, g6, g7, gc, by omega, by omega, q4, q5, q6, q9.1, q9.2, q10.2, fun _ => q10.1, by omega⟩
  · rw [if_neg hh] at h; omega
def ctxB (x : Ev) (i : Nat) : List UInt8 := ((List.range i).filter (fun i : Nat => decide ((i : Int) ≠ x.r))).flatMap (fun i : Nat => vput (x.c.get i).toNat)
theorem ctxB_succ (x : Ev) (i : Nat) : ctxB x (i + 1) = ctxB x i ++ (if (i : Int) ≠ x.r then vput (x.c.get i).toNat else []) := by
  unfold ctxB
  rw [List.range_succ, List.filter_append, List.flatMap_append]
  by_cases h : (i : Int) = x.r <;> simp [h]

theorem K.Mem.cast1 {w0 w : World} {F0 : Nat → Prop} {T : TypeId} {sz n n' c : Nat} {a : Option Addr} {cs cs' : List Value} (h : Mem w0 F0 w [own T sz a n c cs]) (hn : n = n') (hc : cs = cs') : Mem w0 F0 w [own T sz a n' c cs'] := by subst hn; subst hc; exact h

theorem c_vput (m : Nat) (hm : m < 2 ^ 64) (w : World) : Cl Try.prog 51 #[.int .u64 m] w (fun v w' => ∃ a c, v = .slice a (vput m).length c ∧ Chg No w w' ∧ New w w' (own 5 1 a (vput m).length c (u8s (vput m)))) := by
  have hl := vput_len10 m hm
  refine f_enter (args := [_]) Try.func51 rfl rfl ?_
  refine c_sreg rfl ?_
  refine s1 (r_ass rfl) ?_
  refine wn ?_
  refine c_sreg rfl ?_
  refine s1 (r_ass rfl) ?_
  refine wn ?_
  have mm : Mem w No w [own 5 1 none 0 0 []] := (Mem.nil No w).nilrow
  refine c_seq ?_
  refine c_block ?_
  refine c_loop (fun k e w' => ∃ (x : Nat) (a : Option Addr) (c : Nat) (pre : List UInt8), k = x ∧ e 0 = .int .u64 x ∧ e 3 = .slice a pre.length c ∧ Mem w No w' [own 5 1 a pre.length c (u8s pre)] ∧ pre ++ vput x = vput m) m ?_ ?_
  · exact ⟨m, none, 0, [], rfl, rfl, rfl, mm, rfl⟩
  rintro k e w' ⟨x, a, c, pre, rfl, h0, h3, mm, hp⟩
  have hpl : pre.length + (vput k).length ≤ 10 := by rw [← hp, List.length_append] at hl; exact hl
  refine c_seq ?_
  refine c_sreg rfl ?_
  refine s1 (r_mvi h0) ?_
  refine s1 (r_ge rfl rfl) ?_
  refine wn ?_
  refine c_cond rfl (fun h => (c_skip (t_n ?_))) (fun h => (c_exit (t_x (t_x (b_x (t_n ?_))))))
  · have hk : 128 ≤ k := by simp at h; omega
    have hs : vput k = UInt8.ofNat (k % 128 + 128) :: vput (k / 128) := by rw [vput, if_neg (by omega)]
    refine c_seq ?_
    refine c_block ?_
    refine c_region rfl ?_
    refine s1 (r_mvs h3) ?_
    refine s1 (r_mvi h0) ?_
    refine s1 (r_cv rfl rfl) ?_
    refine s1 (r_bor rfl rfl rfl) ?_
    refine so (o_bi1 mm rfl fun a2 c2 w2 mm => ?_)
    refine so (o_ap mm 0 rfl rfl rfl (src_own mm 1 rfl rfl) (by omega) (by unfold maxLen; omega) fun a3 c3 w3 mm => ?_)
    refine s1 (r_ass rfl) ?_
    refine wn (b_n (t_n ?_))
    refine c_region rfl ?_
    refine s1 (r_mvi h0) ?_
    refine s1 (r_shr rfl rfl (by decide) rfl) ?_
    refine s1 (r_asi rfl) ?_
    refine wn (t_n ?_)
    have h2 := mm.pk [0] (by decide)
    have hl2 : (pre ++ [UInt8.ofNat (k % 128 + 128)]).length = pre.length + 1 := by simp
    rw [u8_more] at h2
    have h3 := h2.cast1 (n' := (pre ++ [UInt8.ofNat (k % 128 + 128)]).length) (cs' := u8s (pre ++ [UInt8.ofNat (k % 128 + 128)])) hl2.symm (u8s_append pre [UInt8.ofNat (k % 128 + 128)]).symm
    refine ⟨k / 128, by omega, k / 128, _, _, pre ++ [UInt8.ofNat (k % 128 + 128)], rfl, ?_, ?_, h3, ?_⟩
    · exact congrArg (Value.int .u64) (by simp [IntKind.bits]; first | exact (Int.natCast_ediv k 128) | exact ((Int.fdiv_eq_ediv_of_nonneg (k : Int) (b := 128) (by decide)).trans (Int.natCast_ediv k 128).symm).symm | exact (Int.fdiv_eq_ediv_of_nonneg (k : Int) (b := 128) (by decide)).trans (Int.natCast_ediv k 128).symm)
    · rw [hl2]; rfl
    · rw [List.append_assoc, ← hp, hs]; rfl
  · have hk : k < 128 := by simp at h; omega
    have hs : vput k = [UInt8.ofNat k] := by rw [vput, if_pos hk]
    rw [hs, List.length_singleton] at hpl
    refine c_sreg rfl ?_
    refine s1 (r_mvs h3) ?_
    refine s1 (r_mvi h0) ?_
    refine s1 (r_cv rfl rfl) ?_
    refine so (o_bi1 mm rfl fun a4 c4 w4 mm => ?_)
    refine so (o_ap mm 0 rfl rfl rfl (src_own mm 1 rfl rfl) (by omega) (by unfold maxLen; omega) fun a5 c5 w5 mm => ?_)
    refine s1 (r_ass rfl) ?_
    refine wn ?_
    have h2 := mm.pk [0] (by decide)
    rw [u8_low k hk] at h2
    have hz : vput m = pre ++ [UInt8.ofNat k] := by rw [← hp, hs]
    have hl2 : (pre ++ [UInt8.ofNat k]).length = pre.length + 1 := by simp
    have h3 := h2.cast1 (n' := (pre ++ [UInt8.ofNat k]).length) (cs' := u8s (pre ++ [UInt8.ofNat k])) hl2.symm (u8s_append pre [UInt8.ofNat k]).symm
    rw [hz]
    refine c_ret (ret1 rfl rfl ⟨_, _, ?_, mm.chg, h3.isNew 0 rfl⟩)
    rw [hl2]; rfl

theorem c_ePut1 {w0 w : World} {F0 : Nat → Prop} {L : List It} (mm0 : Mem w0 F0 w L) (k k' : Nat) (x : Int) (hx : 0 ≤ x) (hx' : x ≤ 9223372036854775807) {bo c : Nat} {a : Option Addr} {pre : List UInt8}
    (hk : nth L k = some (bk bo [.slice a pre.length c] 45)) (hk' : nth L k' = some (own 5 1 a pre.length c (u8s pre))) (hkk : k ≠ k') (hlen : pre.length ≤ 1000000) :
    Cl Try.prog 76 #[.int .i64 x, .pointer (some ⟨bo, 0, none⟩)] w (fun v w' => v = .tuple #[] ∧ ∃ a' c', Mem w0 F0 w' (setN (setN L k (bk bo [.slice a' (pre ++ vput x.toNat).length c'] 45)) k' (own 5 1 a' (pre ++ vput x.toNat).length c' (u8s (pre ++ vput x.toNat))))) := by
  have mm := mm0.pick2 k k' hk hk' hkk
  have hl := vput_len10 x.toNat (by omega)
  refine f_enter (args := [_, _]) Try.func76 rfl rfl ?_
  refine c_draw mixed [(0, true), (1, true), (2, true), (3, false), (4, false), (5, false)] [true, true, true, true, false, false] (Sof mm) (by kernel_rfl) rfl rfl (by kernel_rfl) (fun w2 hc => ?_)
  have mm := mm.frame hc
  refine p1 rfl (fun w m => r_ld rfl (m.b 0 rfl) rfl) mm ?_
  refine p1 rfl (fun w m => r_mvi rfl) mm ?_
  refine p1 rfl (fun w m => r_cv rfl (wu64n hx hx')) mm ?_
  refine po rfl (o_c1 rfl (c_vput x.toNat (by omega) _) ?_)
  rintro _ w3 ⟨a3, c3, rfl, hc, hn⟩
  have mm := mm.new hc hn
  refine ⟨fun _ => mm.sub [0, 1] _ (by decide) rfl, ?_⟩
  refine po rfl (o_ap mm 1 rfl rfl rfl (src_own mm 2 rfl (ones_u8s _)) (by omega) (by unfold maxLen; omega) fun a4 c4 w4 mm => ⟨fun h => absurd rfl h, ?_⟩)
  refine ps rfl (o_st mm 0 rfl rfl rfl rfl rfl fun w5 mm => ⟨fun h => absurd rfl h, ?_⟩)
  refine pn (body_n ?_)
  have h2 := mm0.lift2 k k' hk hk' hkk (mm.sub [0, 1] _ (by decide) rfl)
  exact ret0 rfl ⟨rfl, _, _, by rw [List.length_append, u8s_append]; exact h2⟩
theorem c_ePut2 {w0 w : World} {F0 : Nat → Prop} {L : List It} (mm0 : Mem w0 F0 w L) (k k' : Nat) (x : List UInt8) (hx : x.length ≤ 1000) {bo c : Nat} {a : Option Addr} {pre : List UInt8}
    (hk : nth L k = some (bk bo [.slice a pre.length c] 45)) (hk' : nth L k' = some (own 5 1 a pre.length c (u8s pre))) (hkk : k ≠ k') (hlen : pre.length ≤ 1000000) :
    Cl Try.prog 77 #[str x, .pointer (some ⟨bo, 0, none⟩)] w (fun v w' => v = .tuple #[] ∧ ∃ a' c', Mem w0 F0 w' (setN (setN L k (bk bo [.slice a' (pre ++ UInt8.ofNat x.length :: x).length c'] 45)) k' (own 5 1 a' (pre ++ UInt8.ofNat x.length :: x).length c' (u8s (pre ++ UInt8.ofNat x.length :: x))))) := by
  have mm := mm0.pick2 k k' hk hk' hkk
  refine f_enter (args := [_, _]) Try.func77 rfl rfl ?_
  refine c_region rfl ?_
  refine s1 (r_ld rfl (mm.b 0 rfl) rfl) ?_
  refine s1 (r_mvt rfl) ?_
  refine s1 (r_slen rfl) ?_
  refine s1 (r_cv rfl rfl) ?_
  refine so (o_bi1 mm rfl fun a2 c2 w2 mm => ?_)
  refine so (o_ap mm 1 rfl rfl rfl (src_own mm 2 rfl rfl) (by omega) (by unfold maxLen; omega) fun a3 c3 w3 mm => ?_)
  refine s1 (r_mvt rfl) ?_
  refine so (o_ap mm 1 rfl rfl rfl src_str (by omega) (by unfold maxLen; omega) fun a4 c4 w4 mm => ?_)
  refine ss (o_st mm 0 rfl rfl rfl rfl rfl fun w5 mm => ?_)
  refine wn (body_n ?_)
  have h2 := mm.pk [0, 1] (by decide)
  rw [u8_any] at h2
  have h3 := mm0.lift2 k k' hk hk' hkk h2
  have e1 : (pre ++ UInt8.ofNat x.length :: x).length = pre.length + 1 + x.length := by simp; omega
  have e2 : u8s (pre ++ UInt8.ofNat x.length :: x) = u8s pre ++ [u8 (UInt8.ofNat x.length)] ++ u8s x := by simp [u8s]
  exact ret0 rfl ⟨rfl, _, _, by rw [e1, e2]; exact h3⟩
theorem K.Mem.cast3 {w0 w : World} {F0 : Nat → Prop} {I : It} {T T' : TypeId} {sz n n' c b : Nat} {a : Option Addr} {cs cs' : List Value} (h : Mem w0 F0 w [I, own T sz a n c cs, bk b [.slice a n c] T']) (hn : n = n') (hc : cs = cs') : Mem w0 F0 w [I, own T sz a n' c cs', bk b [.slice a n' c] T'] := by subst hn; subst hc; exact h

theorem c_ePut (x : Ev) (w : World) : Cl Try.prog 52 #[.agg (evC x).toArray] w (fun v w' => ∃ a c, v = .tuple #[.slice a (if evMay x = 0 then putE x else []).length c, .int .i64 (evMay x)] ∧ Chg No w w' ∧ New w w' (own 5 1 a (if evMay x = 0 then putE x else []).length c (u8s (if evMay x = 0 then putE x else [])))) := by
  refine f_enter (args := [_]) Try.func52 rfl rfl ?_
  have mm := Mem.nil No w
  refine c_sreg rfl ?_
  refine so (o_bxa mm rfl fun b2 w2 mm => ?_)
  refine s1 (r_ass rfl) ?_
  refine s1 (r_asi rfl) ?_
  refine wn ?_
  refine c_seq ?_
  refine c_sreg rfl ?_
  refine s1 (r_lda rfl (mm.b 0 rfl) rfl) ?_
  refine so (o_c1 rfl (c_may x _) ?_)
  rintro _ w3 ⟨rfl, hc⟩
  have mm := mm.frame hc
  refine s1 (r_asi rfl) ?_
  refine wn ?_
  refine c_sreg rfl ?_
  refine s1 (r_mvi rfl) ?_
  refine s1 (r_ne rfl rfl) ?_
  refine wn ?_
  refine c_cond rfl (fun h => ?_) (fun h => (c_skip (t_n ?_)))
  · have hn : evMay x ≠ 0 := by simp at h; exact h
    refine c_sreg rfl ?_
    refine s1 (r_mvi rfl) ?_
    refine s1 (r_ass rfl) ?_
    refine s1 (r_asi rfl) ?_
    refine wn ?_
    rw [if_neg hn]
    have mm := mm.nilrow (T := 5) (sz := 1)
    exact c_ret (ret2 rfl rfl rfl ⟨none, 0, rfl, mm.chg, mm.isNew 1 rfl⟩)
  have hz : evMay x = 0 := by simp at h; exact h
  have hk := evMay_ok hz
  rw [if_pos hz, hz]
  refine c_sreg rfl ?_
  refine s1 (r_fa rfl) ?_
  refine s1 (r_ld rfl (mm.b 0 rfl) rfl) ?_
  refine s1 (r_cv rfl rfl) ?_
  refine s1 (r_fa rfl) ?_
  refine s1 (r_ld rfl (mm.b 0 rfl) rfl) ?_
  refine s1 (r_cv rfl rfl) ?_
  refine so (o_bi2 mm rfl rfl fun a4 c4 w4 mm => ?_)
  refine so (o_al mm fun b5 w5 mm => ?_)
  refine ss (o_st mm 2 rfl rfl rfl rfl rfl fun w6 mm => ?_)
  refine wn ?_
  refine c_sreg rfl ?_
  refine s1 (r_fn1 rfl) ?_
  refine s1 (r_asf rfl) ?_
  refine wn ?_
  refine c_sreg rfl ?_
  refine s1 (r_fn1 rfl) ?_
  refine s1 (r_asf rfl) ?_
  refine wn ?_
  have mm := mm.pk [0, 1, 2] (by decide)
  rw [u8_int _ (by have := hk.k1; omega), u8_int _ hk.r0] at mm
  have hl := vput_len10 x.n.toNat (by have := hk.n2; omega)
  refine c_sreg rfl ?_
  refine s1 (r_mvf rfl) ?_
  refine s1 (r_fa rfl) ?_
  refine s1 (r_ld rfl (mm.b 0 rfl) rfl) ?_
  refine so (o_f11 rfl rfl (c_ePut1 (pre := [UInt8.ofNat x.kind.toNat, UInt8.ofNat x.r.toNat]) mm 2 1 x.n (by have := hk.n1; omega) (by have := hk.n2; omega) rfl rfl (by decide) (by simp)) ?_)
  rintro _ w7 ⟨rfl, a7, c7, mm⟩
  refine wn ?_
  have mm := mm.pk [0, 1, 2] (by decide)
  have hp4 : ([UInt8.ofNat x.kind.toNat, UInt8.ofNat x.r.toNat] ++ vput x.n.toNat).length ≤ 12 := by simp; omega
  refine c_seq ?_
  refine c_sreg rfl ?_
  refine s1 (r_fa rfl) ?_
  refine s1 (r_lda rfl (mm.b 0 rfl) rfl) ?_
  refine s1 (r_mvi rfl) ?_
  refine wn ?_
  refine c_block ?_
  refine c_loop (fun k e w' => ∃ (i : Nat) (pre : List UInt8) (a : Option Addr) (c : Nat), k + i = 5 ∧ e 1 = .pointer (some ⟨b2, 0, none⟩) ∧ e 5 = .pointer (some ⟨b5, 0, none⟩) ∧ e 6 = .func (.func 76) #[] #[.pointer (some ⟨b5, 0, none⟩)] ∧ e 7 = .func (.func 77) #[] #[.pointer (some ⟨b5, 0, none⟩)] ∧ e 29 = .agg (clkC x.c).toArray ∧ e 30 = .int .i64 i ∧ Mem w No w' [bk b2 (evC x) 67, own 5 1 a pre.length c (u8s pre), bk b5 [.slice a pre.length c] 45] ∧ pre = [UInt8.ofNat x.kind.toNat, UInt8.ofNat x.r.toNat] ++ vput x.n.toNat ++ ctxB x i ∧ pre.length ≤ 12 + 10 * i) 5 ?_ ?_
  · exact ⟨0, _, _, _, rfl, rfl, rfl, rfl, rfl, rfl, rfl, mm, (List.append_nil _).symm, hp4⟩
  rintro k e w9 ⟨i, pre, a, c, hki, h1, h5, h6, h7, h29, h30, mm, hpre, hlen⟩
  refine c_sreg rfl ?_
  refine s1 (r_lt h30 rfl) ?_
  refine wn ?_
  refine c_seq ?_
  refine c_cond rfl (fun h => (c_skip (t_n ?_))) (fun h => (c_exit (t_x (t_x (b_x (t_n ?_))))))
  · have hi : i < 5 := by simp at h; omega
    clear h
    refine c_seq ?_
    refine c_block ?_
    refine c_sreg rfl ?_
    refine s1 (r_mvi h30) ?_
    refine s1 (r_ixv h29 h30 (by omega) (by omega) (nth_clk x.c _ (by omega))) ?_
    refine s1 (r_asi rfl) ?_
    refine s1 (r_asi rfl) ?_
    refine wn ?_
    refine c_sreg rfl ?_
    refine s1 (r_mvi rfl) ?_
    refine s1 (r_fa h1) ?_
    refine s1 (r_ld rfl (mm.b 0 rfl) rfl) ?_
    refine s1 (r_ne rfl rfl) ?_
    refine wn ?_
    refine c_cond rfl (fun h => ?_) (fun h => (c_skip (b_n (t_n ?_))))
    · have hne : (i : Int) ≠ x.r := by simpa using h
      have hci := hk.c i hi
      have hl2 := vput_len10 (x.c.get i).toNat (by omega)
      refine c_region rfl ?_
      refine s1 (r_mvf h6) ?_
      refine s1 (r_mvi rfl) ?_
      refine so (o_f11 rfl rfl (c_ePut1 mm 2 1 (x.c.get i) hci.1 (by omega) rfl rfl (by decide) (by omega)) ?_)
      rintro _ w8 ⟨rfl, a8, c8, mm⟩
      refine wn (b_n (t_n ?_))
      refine c_region rfl ?_
      refine s1 (r_add h30 rfl (wi (by omega) (by omega))) ?_
      refine s1 (r_mvi rfl) ?_
      refine wn (t_n ?_)
      refine ⟨k - 1, by omega, i + 1, _, _, _, by omega, h1, h5, h6, h7, h29, rfl, mm.pk [0, 1, 2] (by decide), ?_, ?_⟩
      · rw [ctxB_succ, if_pos hne, ← List.append_assoc, ← hpre]
      · rw [List.length_append]; omega
    · have hne : ¬ (i : Int) ≠ x.r := by simpa using h
      refine c_region rfl ?_
      refine s1 (r_add h30 rfl (wi (by omega) (by omega))) ?_
      refine s1 (r_mvi rfl) ?_
      refine wn (t_n ?_)
      refine ⟨k - 1, by omega, i + 1, _, _, _, by omega, h1, h5, h6, h7, h29, rfl, mm, ?_, by omega⟩
      rw [ctxB_succ, if_neg hne, List.append_nil]; exact hpre
  · have hi : i = 5 := by simp at h; omega
    subst hi
    clear h
    have hl3 := vput_len10 x.h.toNat (by have := hk.h2; omega)
    refine c_sreg rfl ?_
    refine s1 (r_mvf h6) ?_
    refine s1 (r_fa h1) ?_
    refine s1 (r_ld rfl (mm.b 0 rfl) rfl) ?_
    refine so (o_f11 rfl rfl (c_ePut1 mm 2 1 x.h (by have := hk.h1; omega) (by have := hk.h2; omega) rfl rfl (by decide) (by omega)) ?_)
    rintro _ w9 ⟨rfl, a9, c9, mm⟩
    refine wn ?_
    have hlen2 : (pre ++ vput x.h.toNat).length ≤ 100 := by rw [List.length_append]; omega
    refine c_sreg rfl ?_
    refine s1 (r_mvf h7) ?_
    refine s1 (r_fa h1) ?_
    refine s1 (r_ld rfl (mm.b 0 rfl) rfl) ?_
    refine so (o_f11 rfl rfl (c_ePut2 mm 2 1 x.key (by have := hk.key8; omega) rfl rfl (by decide) (by omega)) ?_)
    rintro _ w10 ⟨rfl, a10, c10, mm⟩
    refine wn ?_
    have hlen3 : (pre ++ vput x.h.toNat ++ UInt8.ofNat x.key.length :: x.key).length ≤ 120 := by rw [List.length_append, List.length_cons]; have := hk.key8; omega
    have mm := mm.pk [0, 1, 2] (by decide)
    have hput : putE x = pre ++ vput x.h.toNat ++ UInt8.ofNat x.key.length :: x.key ++ (if 2 < x.kind then UInt8.ofNat x.label.toNat :: UInt8.ofNat x.val.length :: x.val else []) := by rw [hpre]; rfl
    refine c_seq ?_
    refine c_sreg rfl ?_
    refine s1 (r_fa h1) ?_
    refine s1 (r_ld rfl (mm.b 0 rfl) rfl) ?_
    refine s1 (r_gt rfl rfl) ?_
    refine wn ?_
    refine c_cond rfl (fun h => ?_) (fun h => (c_skip (t_n ?_)))
    · have hk2 : 2 < x.kind := by simpa using h
      rw [if_pos hk2] at hput
      refine c_sreg rfl ?_
      refine s1 (r_ld h5 (mm.b 2 rfl) rfl) ?_
      refine s1 (r_fa h1) ?_
      refine s1 (r_ld rfl (mm.b 0 rfl) rfl) ?_
      refine s1 (r_cv rfl rfl) ?_
      refine so (o_bi1 mm rfl fun a11 c11 w11 mm => ?_)
      refine so (o_ap mm 1 rfl rfl rfl (src_own mm 3 rfl rfl) (by omega) (by unfold maxLen; omega) fun a12 c12 w12 mm => ?_)
      refine ss (o_st mm 2 rfl h5 rfl rfl rfl fun w13 mm => ?_)
      refine wn ?_
      have mm := mm.pk [0, 1, 2] (by decide)
      rw [u8_int _ hk.l0] at mm
      have q1 : (pre ++ vput x.h.toNat ++ UInt8.ofNat x.key.length :: x.key ++ [UInt8.ofNat x.label.toNat]).length = (pre ++ vput x.h.toNat ++ UInt8.ofNat x.key.length :: x.key).length + 1 := by rw [List.length_append, List.length_singleton]
      have q2 := u8s_append (pre ++ vput x.h.toNat ++ UInt8.ofNat x.key.length :: x.key) [UInt8.ofNat x.label.toNat]
      have mm := mm.cast3 q1.symm q2.symm
      refine c_region rfl ?_
      refine s1 (r_mvf h7) ?_
      refine s1 (r_fa h1) ?_
      refine s1 (r_ld rfl (mm.b 0 rfl) rfl) ?_
      refine so (o_f11 rfl rfl (c_ePut2 mm 2 1 x.val (by have := hk.v12; omega) rfl rfl (by decide) (by omega)) ?_)
      rintro _ w14 ⟨rfl, a14, c14, mm⟩
      refine wn (t_n ?_)
      have mm := mm.pk [0, 1, 2] (by decide)
      have hput : putE x = pre ++ vput x.h.toNat ++ UInt8.ofNat x.key.length :: x.key ++ [UInt8.ofNat x.label.toNat] ++ UInt8.ofNat x.val.length :: x.val := by rw [hput]; simp
      rw [hput]
      refine c_sreg rfl ?_
      refine s1 (r_ld h5 (mm.b 2 rfl) rfl) ?_
      refine s1 (r_ass rfl) ?_
      refine s1 (r_asi rfl) ?_
      refine wn ?_
      exact c_ret (ret2 rfl rfl rfl ⟨_, _, rfl, mm.chg, mm.isNew 1 rfl⟩)
    · have hk2 : ¬ 2 < x.kind := by simpa using h
      rw [if_neg hk2, List.append_nil] at hput
      rw [hput]
      refine c_sreg rfl ?_
      refine s1 (r_ld h5 (mm.b 2 rfl) rfl) ?_
      refine s1 (r_ass rfl) ?_
      refine s1 (r_asi rfl) ?_
      refine wn ?_
      exact c_ret (ret2 rfl rfl rfl ⟨_, _, rfl, mm.chg, mm.isNew 1 rfl⟩)
end Go.Proofs.Ytbcpabfemejlgaa
/- What was put is taken; what is taken was put; what is cut is too short: plain. -/
namespace Go.Proofs.Ytbcpabfemejlgaa
open K

/-! ### an error stays -/
theorem tOne_s {l h : Int} {s : List UInt8} {e : Int} (he : e ≠ 0) : (tOne l h s e).2.2 = e := by unfold tOne; rw [if_pos he]
theorem tNum_s {l h : Int} {s : List UInt8} {e : Int} (he : e ≠ 0) : (tNum l h s e).2.2 = e := by unfold tNum; rw [if_pos (.inl he), if_neg he]
theorem tWords_s {m : Int} {s : List UInt8} {e : Int} (he : e ≠ 0) : (tWords m s e).2.2 = e := by
  unfold tWords
  rw [tOne_s he, if_pos (.inl he), if_neg he]
theorem tCtx_s {r : Int} {s : List UInt8} {e : Int} (he : e ≠ 0) : ∀ i, (tCtx r s e i).2.2 = e
  | 0 => rfl
  | i + 1 => by
    have ih := tCtx_s (r := r) (s := s) he i
    show (tStep r i (tCtx r s e i)).2.2 = e
    unfold tStep
    split
    · show (tNum 0 1048576 (tCtx r s e i).2.1 (tCtx r s e i).2.2).2.2 = e
      rw [tNum_s (by rw [ih]; exact he), ih]
    · exact ih
theorem tKeyE_s {k : List UInt8} {e : Int} (he : e ≠ 0) : tKeyE k e = e := by
  unfold tKeyE
  split
  · rfl
  · first | rfl | rw [if_neg he]

def f6 (k r n : Int) (c : Clk) (h : Int) (y : List UInt8 × List UInt8 × Int) : Ev × List UInt8 × Int :=
  if 2 < k then
    (⟨r, n, c, h, k, y.1, (tOne 0 1 y.2.1 (tKeyE y.1 y.2.2)).1, (tWords 12 (tOne 0 1 y.2.1 (tKeyE y.1 y.2.2)).2.1 (tOne 0 1 y.2.1 (tKeyE y.1 y.2.2)).2.2).1⟩, (tWords 12 (tOne 0 1 y.2.1 (tKeyE y.1 y.2.2)).2.1 (tOne 0 1 y.2.1 (tKeyE y.1 y.2.2)).2.2).2.1, (tWords 12 (tOne 0 1 y.2.1 (tKeyE y.1 y.2.2)).2.1 (tOne 0 1 y.2.1 (tKeyE y.1 y.2.2)).2.2).2.2)
  else (⟨r, n, c, h, k, y.1, 0, []⟩, y.2.1, tKeyE y.1 y.2.2)
def f5 (k r n : Int) (c : Clk) (h : Int × List UInt8 × Int) := f6 k r n c h.1 (tWords 8 h.2.1 h.2.2)
def f4 (k r n : Int) (c : Clk × List UInt8 × Int) := f5 k r n c.1 (tNum 1 16777216 c.2.1 c.2.2)
def f3 (k r : Int) (n : Int × List UInt8 × Int) := f4 k r n.1 (tCtx r n.2.1 n.2.2 5)
def f2 (k : Int) (r : Int × List UInt8 × Int) := f3 k r.1 (tNum 1 1048576 r.2.1 r.2.2)
def f1 (k : Int × List UInt8 × Int) := f2 k.1 (tOne 0 4 k.2.1 k.2.2)
theorem takeS_f (b : List UInt8) : takeS b = f1 (tOne 1 5 b 0) := rfl
theorem f6_s {k r n : Int} {c : Clk} {h : Int} {y : List UInt8 × List UInt8 × Int} (he : y.2.2 ≠ 0) : (f6 k r n c h y).2.2 = y.2.2 := by
  unfold f6
  have h1 := tKeyE_s (k := y.1) he
  split
  · show (tWords 12 (tOne 0 1 y.2.1 (tKeyE y.1 y.2.2)).2.1 (tOne 0 1 y.2.1 (tKeyE y.1 y.2.2)).2.2).2.2 = y.2.2
    rw [h1]
    rw [tWords_s (by rw [tOne_s he]; exact he), tOne_s he]
  · exact h1
theorem f5_s {k r n : Int} {c : Clk} {h : Int × List UInt8 × Int} (he : h.2.2 ≠ 0) : (f5 k r n c h).2.2 = h.2.2 := by
  have h1 := tWords_s (m := 8) (s := h.2.1) he
  exact (f6_s (y := tWords 8 h.2.1 h.2.2) (by rw [h1]; exact he)).trans h1
theorem f4_s {k r n : Int} {c : Clk × List UInt8 × Int} (he : c.2.2 ≠ 0) : (f4 k r n c).2.2 = c.2.2 := by
  have h1 := tNum_s (l := 1) (h := 16777216) (s := c.2.1) he
  exact (f5_s (h := tNum 1 16777216 c.2.1 c.2.2) (by rw [h1]; exact he)).trans h1
theorem f3_s {k r : Int} {n : Int × List UInt8 × Int} (he : n.2.2 ≠ 0) : (f3 k r n).2.2 = n.2.2 := by
  have h1 := tCtx_s (r := r) (s := n.2.1) he 5
  exact (f4_s (c := tCtx r n.2.1 n.2.2 5) (by rw [h1]; exact he)).trans h1
theorem f2_s {k : Int} {r : Int × List UInt8 × Int} (he : r.2.2 ≠ 0) : (f2 k r).2.2 = r.2.2 := by
  have h1 := tNum_s (l := 1) (h := 1048576) (s := r.2.1) he
  exact (f3_s (n := tNum 1 1048576 r.2.1 r.2.2) (by rw [h1]; exact he)).trans h1
theorem f1_s {k : Int × List UInt8 × Int} (he : k.2.2 ≠ 0) : (f1 k).2.2 = k.2.2 := by
  have h1 := tOne_s (l := 0) (h := 4) (s := k.2.1) he
  exact (f2_s (r := tOne 0 4 k.2.1 k.2.2) (by rw [h1]; exact he)).trans h1

/-! ### what was put is taken -/
theorem tOne_put {l h : Int} {s : List UInt8} (n : Int) (h0 : 0 ≤ n) (h1 : n < 256) (hl : l ≤ n) (hh : n ≤ h) : tOne l h (UInt8.ofNat n.toNat :: s) 0 = (n, s, 0) := by
  have e : ((UInt8.ofNat n.toNat).toNat : Int) = n := by simp; omega
  unfold tOne
  rw [if_neg (by simp)]
  simp only [e]
  rw [if_neg (by omega)]
theorem vput_len9 (n : Nat) (h : n < 2 ^ 63) : (vput n).length ≤ 9 := vput_len 8 n (by omega)
theorem tNum_put {l h : Int} {s : List UInt8} (n : Int) (h0 : 0 ≤ n) (h1 : n ≤ 4611686018427387904) (hl : l ≤ n) (hh : n ≤ h) : tNum l h (vput n.toNat ++ s) 0 = (n, s, 0) := by
  have hv := vtake_put n.toNat (vput_len9 _ (by omega)) s
  unfold tNum
  rw [hv, if_neg (by simp)]
  simp only [List.drop_left]
  rw [if_neg (by omega), wi (by omega) (by omega), Int.toNat_of_nonneg h0]
theorem tWords_put {m : Int} {s : List UInt8} (w : List UInt8) (h1 : 1 ≤ w.length) (hm : (w.length : Int) ≤ m) (h2 : w.length < 256) : tWords m (UInt8.ofNat w.length :: w ++ s) 0 = (w, s, 0) := by
  have e : tOne 1 m (UInt8.ofNat w.length :: (w ++ s)) 0 = ((w.length : Int), w ++ s, 0) := by
    have := tOne_put (l := 1) (h := m) (s := w ++ s) (w.length : Int) (by omega) (by omega) (by omega) hm
    simpa using this
  unfold tWords
  rw [List.cons_append, e, if_neg (by simp; omega)]
  simp
theorem tCtx_put (x : Ev) (hk : EvOk x) : ∀ (i : Nat), i ≤ 5 → ∀ s : List UInt8, ∃ c, tCtx x.r (ctxB x i ++ s) 0 i = (c, s, 0) ∧ ∀ j, j < 5 → c.get j = if j < i ∧ (j : Int) ≠ x.r then x.c.get j else 0
  | 0, _, s => ⟨clk0, rfl, fun j hj => by
      rw [if_neg (by omega)]
      match j, hj with
      | 0, _ => rfl | 1, _ => rfl | 2, _ => rfl | 3, _ => rfl | 4, _ => rfl⟩
  | i + 1, hi, s => by
    have hci := hk.c i (by omega)
    rw [ctxB_succ, List.append_assoc]
    obtain ⟨c, h1, h2⟩ := tCtx_put x hk i (by omega) ((if (i : Int) ≠ x.r then vput (x.c.get i).toNat else []) ++ s)
    show ∃ c, tStep x.r i (tCtx x.r _ 0 i) = (c, s, 0) ∧ _
    rw [h1]
    unfold tStep
    by_cases hr : (i : Int) ≠ x.r
    · rw [if_pos hr, if_pos hr]
      simp only
      rw [tNum_put (x.c.get i) hci.1 (by omega) hci.1 hci.2]
      refine ⟨_, rfl, fun j hj => ?_⟩
      rw [Clk.get_set _ _ _ (by omega) hj]
      by_cases hij : i = j
      · subst hij
        rw [if_pos rfl, if_pos ⟨by omega, hr⟩]
      · rw [if_neg hij, h2 j hj]
        by_cases hj2 : j < i ∧ (j : Int) ≠ x.r
        · rw [if_pos hj2, if_pos ⟨by omega, hj2.2⟩]
        · rw [if_neg hj2, if_neg (by omega)]
    · rw [if_neg hr, if_neg hr]
      refine ⟨_, rfl, fun j hj => ?_⟩
      rw [h2 j hj]
      by_cases hj2 : j < i ∧ (j : Int) ≠ x.r
      · rw [if_pos hj2, if_pos ⟨by omega, hj2.2⟩]
      · rw [if_neg hj2, if_neg (by omega)]
theorem putE_eq (x : Ev) : putE x = UInt8.ofNat x.kind.toNat :: (UInt8.ofNat x.r.toNat :: (vput x.n.toNat ++ (ctxB x 5 ++ (vput x.h.toNat ++ (UInt8.ofNat x.key.length :: x.key ++
    (if 2 < x.kind then UInt8.ofNat x.label.toNat :: (UInt8.ofNat x.val.length :: x.val) else [])))))) := by
  unfold putE ctxB
  simp
theorem takeS_put (x : Ev) (hk : EvOk x) (s : List UInt8) : ∃ c, takeS (putE x ++ s) = ({ x with c := c }, s, 0) ∧ ∀ j, j < 5 → c.get j = if (j : Int) ≠ x.r then x.c.get j else 0 := by
  have h1 := hk.k1; have h2 := hk.k5; have h3 := hk.r0; have h4 := hk.r5; have h5 := hk.n1; have h6 := hk.n2; have h7 := hk.h1; have h8 := hk.h2
  have hkey1 := hk.key1; have hkey8 := hk.key8
  rw [takeS_f, putE_eq]
  simp only [List.cons_append, List.append_assoc]
  rw [tOne_put x.kind (by omega) (by omega) (by omega) (by omega)]
  unfold f1
  rw [tOne_put x.r (by omega) (by omega) (by omega) (by omega)]
  unfold f2
  simp only
  rw [tNum_put x.n (by omega) (by omega) (by omega) (by omega)]
  unfold f3
  simp only
  obtain ⟨c, hc1, hc2⟩ := tCtx_put x hk 5 (Nat.le_refl _) (vput x.h.toNat ++ (UInt8.ofNat x.key.length :: (x.key ++ ((if 2 < x.kind then UInt8.ofNat x.label.toNat :: (UInt8.ofNat x.val.length :: x.val) else []) ++ s))))
  rw [hc1]
  unfold f4
  simp only
  rw [tNum_put x.h (by omega) (by omega) (by omega) (by omega)]
  unfold f5
  simp only
  have hw := tWords_put (m := 8) (s := (if 2 < x.kind then UInt8.ofNat x.label.toNat :: (UInt8.ofNat x.val.length :: x.val) else []) ++ s) x.key hkey1 (by omega) (by omega)
  rw [List.cons_append] at hw
  rw [hw]
  have hko : keyOk x.key = true := by simp only [keyOk, Bool.and_eq_true, decide_eq_true_eq]; exact ⟨⟨hkey1, hkey8⟩, hk.keya⟩
  have hke : tKeyE x.key 0 = 0 := if_pos hko
  unfold f6
  simp only [hke]
  refine ⟨c, ?_, fun j hj => ?_⟩
  · by_cases hz : 2 < x.kind
    · rw [if_pos hz, if_pos hz]
      have hv1 := hk.v1 hz; have hv12 := hk.v12; have hl0 := hk.l0; have hl2 := hk.l2
      simp only [List.cons_append]
      rw [tOne_put x.label (by omega) (by omega) (by omega) (by omega)]
      simp only
      have hw2 := tWords_put (m := 12) (s := s) x.val hv1 (by omega) (by omega)
      rw [List.cons_append] at hw2
      rw [hw2]
    · rw [if_neg hz, if_neg hz]
      have hb := hk.bare (by omega)
      simp only [List.nil_append]
      obtain ⟨r, n, c', h, k, key, lb, vl⟩ := x
      simp only at hb
      obtain ⟨rfl, rfl⟩ := hb
      rfl
  · rw [hc2 j hj]
    by_cases hr : (j : Int) ≠ x.r
    · rw [if_pos ⟨hj, hr⟩, if_pos hr]
    · rw [if_neg (fun h => hr h.2), if_neg hr]
theorem takeE_put (x : Ev) (hk : EvOk x) (s : List UInt8) : takeE (putE x ++ s) = (x, ((putE x).length : Int), 0) := by
  obtain ⟨c, h1, h2⟩ := takeS_put x hk s
  unfold takeE takeFin
  rw [h1, if_neg (by simp)]
  have hr0 := hk.r0; have hr5 := hk.r5
  have hc : c.set x.r.toNat (x.n - 1) = x.c := Clk.ext' fun j hj => by
    rw [Clk.get_set _ _ _ (by omega) hj]
    split
    · rename_i hj; rw [← hk.own, hj]
    · rename_i hj; rw [h2 j (by assumption), if_pos (by omega)]
  simp only
  refine Prod.ext ?_ (Prod.ext ?_ rfl)
  · show ({ x with c := c.set x.r.toNat (x.n - 1) } : Ev) = x
    rw [hc]
  · show (((putE x ++ s).length - s.length : Nat) : Int) = ((putE x).length : Int)
    rw [List.length_append]; omega
end Go.Proofs.Ytbcpabfemejlgaa
/- What is taken was put; what is cut is too short; how long it is: plain. -/
namespace Go.Proofs.Ytbcpabfemejlgaa
open K

theorem tCtx_ok {r : Int} {s : List UInt8} (x : Ev) (hr : x.r = r) : ∀ i, i ≤ 5 → (tCtx r s 0 i).2.2 = 0 → (∀ j, j < i → (j : Int) ≠ r → x.c.get j = (tCtx r s 0 i).1.get j) →
    s = ctxB x i ++ (tCtx r s 0 i).2.1 ∧ ∀ j, j < i → (j : Int) ≠ r → 0 ≤ x.c.get j ∧ x.c.get j ≤ 1048576
  | 0, _, _, _ => ⟨rfl, fun j hj => absurd hj (by omega)⟩
  | i + 1, hi, h, hx => by
    have h1 : (tStep r i (tCtx r s 0 i)).2.2 = 0 := h
    have hx1 : ∀ j, j < i + 1 → (j : Int) ≠ r → x.c.get j = (tStep r i (tCtx r s 0 i)).1.get j := hx
    show s = ctxB x (i + 1) ++ (tStep r i (tCtx r s 0 i)).2.1 ∧ _
    have ih := tCtx_ok (s := s) x hr i (by omega)
    unfold tStep at h1 hx1 ⊢
    generalize tCtx r s 0 i = q at *
    rw [ctxB_succ, hr]
    by_cases hne : (i : Int) ≠ r
    · rw [if_pos hne] at h1 ⊢
      simp only [if_pos hne] at hx1 ⊢
      obtain ⟨he, m, hm, hm0, hm1, hs⟩ := tNum_ok (by decide) h1
      have hxi : x.c.get i = m := by
        rw [hx1 i (by omega) hne, Clk.get_set _ _ _ (by omega) (by omega), if_pos rfl, hm]
      obtain ⟨g1, g2⟩ := ih he (fun j hj hjr => by rw [hx1 j (by omega) hjr, Clk.get_set _ _ _ (by omega) (by omega), if_neg (by omega)])
      refine ⟨?_, fun j hj hjr => ?_⟩
      · rw [hxi, List.append_assoc, show ((m : Int)).toNat = m from rfl, ← hs]
        exact g1
      · by_cases hij : j = i
        · rw [hij, hxi]; exact ⟨by omega, hm1⟩
        · exact g2 j (by omega) hjr
    · rw [if_neg hne] at h1 ⊢
      simp only [if_neg hne] at hx1 ⊢
      obtain ⟨g1, g2⟩ := ih h1 (fun j hj hjr => hx1 j (by omega) hjr)
      refine ⟨by rw [List.append_nil]; exact g1, fun j hj hjr => g2 j ?_ hjr⟩
      have : j ≠ i := fun hh => hne (by rw [← hh]; exact hjr)
      omega

theorem ofNat_of {c : UInt8} {n : Int} (h : n = c.toNat) : UInt8.ofNat n.toNat = c := by rw [h]; simp
theorem takeS_ok {b : List UInt8} {z : Ev} {s : List UInt8} (h : takeS b = (z, s, 0)) :
    EvOk { z with c := z.c.set z.r.toNat (z.n - 1) } ∧ b = putE { z with c := z.c.set z.r.toNat (z.n - 1) } ++ s := by
  rw [takeS_f] at h
  have hz : ∀ {t : Ev × List UInt8 × Int} {e : Int}, t = (z, s, 0) → (e ≠ 0 → t.2.2 = e) → e = 0 := fun ht he => Classical.byContradiction fun hn => hn (by have := he hn; rw [ht] at this; exact this.symm)
  have e1 := hz h f1_s
  obtain ⟨_, k1, k2, c1, hb, hc1⟩ := tOne_ok e1
  unfold f1 at h
  have e2 := hz h f2_s
  obtain ⟨_, r1, r2, c2, hb2, hc2⟩ := tOne_ok e2
  unfold f2 at h
  have e3 := hz h f3_s
  obtain ⟨_, n, hn, n1, n2, hb3⟩ := tNum_ok (by decide) e3
  unfold f3 at h
  have e4 := hz h f4_s
  rw [e3] at h e4
  unfold f4 at h
  have e5 := hz h f5_s
  obtain ⟨_, m, hm, m1, m2, hb5⟩ := tNum_ok (by decide) e5
  unfold f5 at h
  have e6 := hz h f6_s
  obtain ⟨_, w1, w2, hb6⟩ := tWords_ok e6
  have hcx := fun x hr hx => tCtx_ok (r := (tOne 0 4 (tOne 1 5 b 0).2.1 (tOne 1 5 b 0).2.2).1) (s := (tNum 1 1048576 (tOne 0 4 (tOne 1 5 b 0).2.1 (tOne 1 5 b 0).2.2).2.1 (tOne 0 4 (tOne 1 5 b 0).2.1 (tOne 1 5 b 0).2.2).2.2).2.1) x hr 5 (Nat.le_refl _) e4 hx
  generalize tOne 1 5 b 0 = q1 at *
  obtain ⟨kd, s1, x1⟩ := q1
  dsimp only at *
  generalize tOne 0 4 s1 x1 = q2 at *
  obtain ⟨r, s2, x2⟩ := q2
  dsimp only at *
  generalize tNum 1 1048576 s2 x2 = q3 at *
  obtain ⟨nn, s3, x3⟩ := q3
  dsimp only at *
  generalize tCtx r s3 0 5 = q4 at *
  obtain ⟨cc, s4, x4⟩ := q4
  dsimp only at *
  generalize tNum 1 16777216 s4 x4 = q5 at *
  obtain ⟨hh, s5, x5⟩ := q5
  dsimp only at *
  generalize tWords 8 s5 x5 = q6 at *
  obtain ⟨key, s6, x6⟩ := q6
  dsimp only at *
  subst e6
  subst hn
  subst hm
  unfold f6 at h
  dsimp only at h
  have hfin : ∀ (lb : Int) (vl : List UInt8) (rest : List UInt8), keyOk key = true → 0 ≤ lb → lb < 2 → vl.length ≤ 12 → (2 < kd → 1 ≤ vl.length) → (kd ≤ 2 → lb = 0 ∧ vl = []) → s6 = (if 2 < kd then UInt8.ofNat lb.toNat :: (UInt8.ofNat vl.length :: vl) else []) ++ rest →
      EvOk ⟨r, n, cc.set r.toNat ((n : Int) - 1), m, kd, key, lb, vl⟩ ∧ b = putE ⟨r, n, cc.set r.toNat ((n : Int) - 1), m, kd, key, lb, vl⟩ ++ rest := by
    intro lb vl rest hko l0 l2 v12 v1 vb hs6
    obtain ⟨g1, g2⟩ := hcx ⟨r, n, cc.set r.toNat ((n : Int) - 1), m, kd, key, lb, vl⟩ rfl (fun j hj hjr => by
      show (cc.set r.toNat ((n : Int) - 1)).get j = cc.get j
      rw [Clk.get_set _ _ _ (by omega) hj, if_neg (by omega)])
    simp only [keyOk, Bool.and_eq_true, decide_eq_true_eq] at hko
    have hown : (cc.set r.toNat ((n : Int) - 1)).get r.toNat = (n : Int) - 1 := by rw [Clk.get_set _ _ _ (by omega) (by omega), if_pos rfl]
    refine ⟨⟨r1, by show r < 5; omega, by show 1 ≤ (n : Int); omega, by show (n : Int) ≤ 1048576; omega, hown, by show 1 ≤ (m : Int); omega, by show (m : Int) ≤ 16777216; omega, fun j hj => ?_, k1, by show kd ≤ 5; omega, hko.1.1, hko.1.2, hko.2, l0, l2, v12, v1, vb⟩, ?_⟩
    · show 0 ≤ (cc.set r.toNat ((n : Int) - 1)).get j ∧ (cc.set r.toNat ((n : Int) - 1)).get j ≤ 1048576
      by_cases hjr : (j : Int) ≠ r
      · exact g2 j hj hjr
      · have : j = r.toNat := by omega
        rw [this, hown]; omega
    · rw [putE_eq]
      simp only [List.cons_append, List.append_assoc]
      rw [ofNat_of hc1, ofNat_of hc2, hb, hb2, hb3, g1, hb5, hb6, hs6]
      simp only [List.cons_append, List.append_assoc]
      rfl
  by_cases hk2 : 2 < kd
  · rw [if_pos hk2] at h
    generalize hq7 : tOne 0 1 s6 (tKeyE key 0) = q7 at h
    obtain ⟨lb, s7, x7⟩ := q7
    dsimp only at h
    generalize hq8 : tWords 12 s7 x7 = q8 at h
    obtain ⟨vl, s8, x8⟩ := q8
    dsimp only at h
    simp only [Prod.mk.injEq] at h
    obtain ⟨hz1, hz2, hz3⟩ := h
    subst hz1; subst hz2; subst hz3
    have t8 := tWords_ok (most := 12) (s := s7) (e := x7) (by rw [hq8])
    rw [hq8] at t8
    dsimp only at t8
    obtain ⟨e8, v1, v2, hb8⟩ := t8
    subst e8
    have t7 := tOne_ok (low := 0) (high := 1) (s := s6) (e := tKeyE key 0) (by rw [hq7])
    rw [hq7] at t7
    dsimp only at t7
    obtain ⟨e7, l1, l2, c7, hb7, hc7⟩ := t7
    obtain ⟨_, hko⟩ := tKeyE_ok e7
    exact hfin lb vl s8 hko l1 (by omega) (by omega) (fun _ => v1) (fun hh => absurd hh (by omega)) (by
      rw [if_pos hk2, ofNat_of hc7, List.cons_append, hb7, hb8])
  · rw [if_neg hk2] at h
    simp only [Prod.mk.injEq] at h
    obtain ⟨hz1, hz2, hz3⟩ := h
    subst hz1
    obtain ⟨_, hko⟩ := tKeyE_ok hz3
    exact hfin 0 [] s hko (by decide) (by decide) (by decide) (fun hh => absurd hh hk2) (fun _ => ⟨rfl, rfl⟩) (by rw [if_neg hk2]; exact hz2)

/-! ### what is cut -/
theorem take_cut {α : Type} (p q : List α) (i : Nat) : (i < p.length ∧ (p ++ q).take i = p.take i) ∨ (p.length ≤ i ∧ (p ++ q).take i = p ++ q.take (i - p.length)) := by
  rcases Nat.lt_or_ge i p.length with h | h
  · exact .inl ⟨h, by rw [List.take_append_of_le_length (Nat.le_of_lt h)]⟩
  · refine .inr ⟨h, ?_⟩
    rw [List.take_append, List.take_of_length_le h]
theorem tOne_nil {l h : Int} : (tOne l h [] 0).2.2 = 2 := rfl
theorem tNum_cut {l h : Int} (n i : Nat) (hi : i < (vput n).length) (hn : (vput n).length ≤ 10) : (tNum l h ((vput n).take i) 0).2.2 = 2 := by
  unfold tNum
  rw [vtake_short n i hi hn, if_pos (.inr (by decide))]
  rfl
theorem tWords_nil {m : Int} : (tWords m [] 0).2.2 = 2 := by
  unfold tWords
  rw [if_pos (.inl (by rw [tOne_nil]; decide))]
  rfl
theorem tWords_cut {m : Int} (w : List UInt8) (h1 : 1 ≤ w.length) (hm : (w.length : Int) ≤ m) (h2 : w.length < 256) (i : Nat) (hi : i < w.length) : (tWords m (UInt8.ofNat w.length :: w.take i) 0).2.2 = 2 := by
  have e : tOne 1 m (UInt8.ofNat w.length :: w.take i) 0 = ((w.length : Int), w.take i, 0) := by
    have := tOne_put (l := 1) (h := m) (s := w.take i) (w.length : Int) (by omega) (by omega) (by omega) hm
    simpa using this
  unfold tWords
  rw [e, if_pos (.inr (by simp only [List.length_take]; omega))]
  rfl
theorem tCtx_cut (x : Ev) (hk : EvOk x) : ∀ (i : Nat), i ≤ 5 → ∀ j, j < (ctxB x i).length → (tCtx x.r ((ctxB x i).take j) 0 i).2.2 = 2
  | 0, _, j, hj => absurd hj (by simp [ctxB])
  | i + 1, hi, j, hj => by
    have hci := hk.c i (by omega)
    rw [ctxB_succ] at hj ⊢
    show (tStep x.r i (tCtx x.r _ 0 i)).2.2 = 2
    rcases take_cut (ctxB x i) (if (i : Int) ≠ x.r then vput (x.c.get i).toNat else []) j with ⟨h1, h2⟩ | ⟨h1, h2⟩
    · rw [h2]
      have ih := tCtx_cut x hk i (by omega) j h1
      unfold tStep
      split
      · show (tNum 0 1048576 (tCtx x.r _ 0 i).2.1 (tCtx x.r _ 0 i).2.2).2.2 = 2
        rw [ih]
        exact tNum_s (by decide)
      · exact ih
    · rw [h2]
      obtain ⟨c, g1, _⟩ := tCtx_put x hk i (by omega) ((if (i : Int) ≠ x.r then vput (x.c.get i).toNat else []).take (j - (ctxB x i).length))
      rw [g1]
      by_cases hne : (i : Int) ≠ x.r
      · rw [if_pos hne] at hj ⊢
        rw [List.length_append] at hj
        unfold tStep
        rw [if_pos hne]
        exact tNum_cut _ _ (by omega) (vput_len10 _ (by omega))
      · rw [if_neg hne, List.append_nil] at hj
        omega
def tailV (x : Ev) : List UInt8 := if 2 < x.kind then UInt8.ofNat x.label.toNat :: (UInt8.ofNat x.val.length :: x.val) else []
def tailK (x : Ev) : List UInt8 := UInt8.ofNat x.key.length :: (x.key ++ tailV x)
def tailH (x : Ev) : List UInt8 := vput x.h.toNat ++ tailK x
def tailC (x : Ev) : List UInt8 := ctxB x 5 ++ tailH x
theorem putE_tail (x : Ev) : putE x = UInt8.ofNat x.kind.toNat :: (UInt8.ofNat x.r.toNat :: (vput x.n.toNat ++ tailC x)) := by
  rw [putE_eq]; rfl
theorem takeS_cut (x : Ev) (hk : EvOk x) (i : Nat) (hi : i < (putE x).length) : (takeS ((putE x).take i)).2.2 = 2 := by
  have h1 := hk.k1; have h2 := hk.k5; have h3 := hk.r0; have h4 := hk.r5; have h5 := hk.n1; have h6 := hk.n2; have h7 := hk.h1; have h8 := hk.h2
  have hkey1 := hk.key1; have hkey8 := hk.key8
  rw [takeS_f]
  rw [putE_tail] at hi ⊢
  cases i with
  | zero => rw [List.take_zero, f1_s (by rw [tOne_nil]; decide)]; rfl
  | succ i =>
  rw [List.take_succ_cons, tOne_put x.kind (by omega) (by omega) (by omega) (by omega)]
  rw [List.length_cons] at hi
  unfold f1
  cases i with
  | zero => rw [List.take_zero]; exact (f2_s (by rw [tOne_nil]; decide)).trans rfl
  | succ i =>
  rw [List.take_succ_cons]
  simp only
  rw [tOne_put x.r (by omega) (by omega) (by omega) (by omega)]
  rw [List.length_cons] at hi
  unfold f2
  simp only
  rcases take_cut (vput x.n.toNat) (tailC x) i with ⟨g1, g2⟩ | ⟨g1, g2⟩
  · rw [g2]
    have := tNum_cut (l := 1) (h := 1048576) x.n.toNat i g1 (vput_len10 _ (by omega))
    rw [f3_s (by rw [this]; decide), this]
  rw [g2, tNum_put x.n (by omega) (by omega) (by omega) (by omega)]
  rw [List.length_append] at hi
  have hi2 : i - (vput x.n.toNat).length < (tailC x).length := by omega
  generalize i - (vput x.n.toNat).length = i2 at *
  unfold f3
  simp only
  unfold tailC at hi2 ⊢
  rcases take_cut (ctxB x 5) (tailH x) i2 with ⟨g3, g4⟩ | ⟨g3, g4⟩
  · rw [g4]
    have := tCtx_cut x hk 5 (Nat.le_refl _) i2 g3
    rw [f4_s (by rw [this]; decide), this]
  rw [g4]
  obtain ⟨c, hc1, _⟩ := tCtx_put x hk 5 (Nat.le_refl _) ((tailH x).take (i2 - (ctxB x 5).length))
  rw [hc1]
  rw [List.length_append] at hi2
  have hi3 : i2 - (ctxB x 5).length < (tailH x).length := by omega
  generalize i2 - (ctxB x 5).length = i3 at *
  unfold f4
  simp only
  unfold tailH at hi3 ⊢
  rcases take_cut (vput x.h.toNat) (tailK x) i3 with ⟨g5, g6⟩ | ⟨g5, g6⟩
  · rw [g6]
    have := tNum_cut (l := 1) (h := 16777216) x.h.toNat i3 g5 (vput_len10 _ (by omega))
    rw [f5_s (by rw [this]; decide), this]
  rw [g6, tNum_put x.h (by omega) (by omega) (by omega) (by omega)]
  rw [List.length_append] at hi3
  have hi4 : i3 - (vput x.h.toNat).length < (tailK x).length := by omega
  generalize i3 - (vput x.h.toNat).length = i4 at *
  unfold f5
  simp only
  unfold tailK at hi4 ⊢
  cases i4 with
  | zero =>
    rw [List.take_zero]
    have := tWords_nil (m := 8)
    rw [f6_s (by rw [this]; decide), this]
  | succ i4 =>
  rw [List.take_succ_cons]
  rw [List.length_cons] at hi4
  rcases take_cut x.key (tailV x) i4 with ⟨g7, g8⟩ | ⟨g7, g8⟩
  · rw [g8]
    have := tWords_cut (m := 8) x.key hkey1 (by omega) (by omega) i4 g7
    rw [f6_s (by rw [this]; decide), this]
  rw [g8]
  have hw := tWords_put (m := 8) (s := (tailV x).take (i4 - x.key.length)) x.key hkey1 (by omega) (by omega)
  rw [List.cons_append] at hw
  rw [hw]
  have hko : keyOk x.key = true := by simp only [keyOk, Bool.and_eq_true, decide_eq_true_eq]; exact ⟨⟨hkey1, hkey8⟩, hk.keya⟩
  have hke : tKeyE x.key 0 = 0 := if_pos hko
  rw [List.length_append] at hi4
  have hi5 : i4 - x.key.length < (tailV x).length := by omega
  generalize i4 - x.key.length = i5 at *
  unfold f6
  simp only [hke]
  unfold tailV at hi5 ⊢
  by_cases hz : 2 < x.kind
  · rw [if_pos hz] at hi5
    rw [if_pos hz, if_pos hz]
    have hv1 := hk.v1 hz; have hv12 := hk.v12; have hl0 := hk.l0; have hl2 := hk.l2
    cases i5 with
    | zero =>
      rw [List.take_zero]
      show (tWords 12 (tOne 0 1 [] 0).2.1 (tOne 0 1 [] 0).2.2).2.2 = 2
      rw [tOne_nil]
      exact tWords_s (by decide)
    | succ i5 =>
    rw [List.take_succ_cons, tOne_put x.label (by omega) (by omega) (by omega) (by omega)]
    rw [List.length_cons] at hi5
    simp only
    cases i5 with
    | zero => rw [List.take_zero]; exact tWords_nil
    | succ i5 =>
    rw [List.take_succ_cons]
    rw [List.length_cons] at hi5
    exact tWords_cut x.val hv1 (by omega) (by omega) i5 (by omega)
  · rw [if_neg hz] at hi5
    exact absurd hi5 (by simp)
theorem takeE_cut (x : Ev) (hk : EvOk x) (i : Nat) (hi : i < (putE x).length) : takeE ((putE x).take i) = (evZ, 0, 2) := by
  have h := takeS_cut x hk i hi
  unfold takeE takeFin
  rw [h, if_pos (by decide)]
/-- Of any bytes: an event's, or none's. -/
theorem takeE_any (b : List UInt8) : ((takeE b).2.2 = 0 ∧ EvOk (takeE b).1 ∧ (takeE b).2.1 = ((putE (takeE b).1).length : Int) ∧ (putE (takeE b).1).length ≤ b.length ∧ b.take (putE (takeE b).1).length = putE (takeE b).1) ∨
    ((takeE b).2.2 ≠ 0 ∧ (takeE b).1 = evZ ∧ (takeE b).2.1 = 0) := by
  by_cases h : (takeS b).2.2 = 0
  · left
    have e : takeS b = ((takeS b).1, (takeS b).2.1, 0) := by rw [← h]
    obtain ⟨h1, h2⟩ := takeS_ok e
    unfold takeE takeFin
    rw [h, if_neg (by simp)]
    generalize (takeS b).1 = z at *
    generalize (takeS b).2.1 = s at *
    simp only
    refine ⟨trivial, h1, ?_, ?_, ?_⟩
    · rw [h2, List.length_append]; omega
    · rw [h2, List.length_append]; omega
    · conv => lhs; rw [h2]
      simp
  · right
    unfold takeE takeFin
    rw [if_pos h]
    exact ⟨h, rfl, rfl⟩
theorem vput_len3 (n : Nat) (h : n < 2097152) : (vput n).length ≤ 3 := vput_len 2 n (by omega)
theorem vput_len4 (n : Nat) (h : n < 268435456) : (vput n).length ≤ 4 := vput_len 3 n (by omega)
theorem ctxB_len (x : Ev) (hk : EvOk x) : (ctxB x 5).length ≤ 12 := by
  have key : ∀ i, i ≤ 5 → (ctxB x i).length ≤ 3 * (if x.r < i then i - 1 else i) := by
    intro i
    induction i with
    | zero => intro _; simp [ctxB]
    | succ i ih =>
      intro hi
      have h1 := ih (by omega)
      have hci := hk.c i (by omega)
      have h2 := vput_len3 (x.c.get i).toNat (by omega)
      rw [ctxB_succ, List.length_append]
      have hr0 := hk.r0
      by_cases hne : (i : Int) ≠ x.r
      · rw [if_pos hne]
        split at h1 <;> split <;> omega
      · rw [if_neg hne]
        simp only [List.length_nil]
        split at h1 <;> split <;> omega
  have := key 5 (Nat.le_refl _)
  have hr5 := hk.r5
  rw [if_pos (by omega)] at this
  omega
theorem putE_le (x : Ev) (hk : EvOk x) : (putE x).length ≤ 44 := by
  have h1 := ctxB_len x hk
  have h5 := hk.n1; have h6 := hk.n2; have h7 := hk.h1; have h8 := hk.h2
  have h2 := vput_len3 x.n.toNat (by omega)
  have h3 := vput_len4 x.h.toNat (by omega)
  have h4 := hk.key8; have h9 := hk.v12
  rw [putE_tail]
  unfold tailC tailH tailK tailV
  simp only [List.length_cons, List.length_append]
  split <;> simp <;> omega
theorem putE_inj {x y : Ev} (hx : EvOk x) (hy : EvOk y) {s t : List UInt8} (h : putE x ++ s = putE y ++ t) : x = y := by
  have h1 := takeE_put x hx s
  rw [h, takeE_put y hy t] at h1
  exact (congrArg Prod.fst h1).symm
theorem putE_pre {x y : Ev} (hx : EvOk x) (hy : EvOk y) : decide ((putE x).take (min (putE x).length (putE y).length) = (putE y).take (min (putE x).length (putE y).length)) = decide (x = y) := by
  refine decide_eq_decide.2 ⟨fun h => ?_, fun h => by rw [h]⟩
  rcases Nat.le_total (putE x).length (putE y).length with hl | hl
  · rw [Nat.min_eq_left hl, List.take_length] at h
    refine putE_inj hx hy (s := (putE y).drop (putE x).length) (t := []) ?_
    conv => lhs; lhs; rw [h]
    rw [List.take_append_drop, List.append_nil]
  · rw [Nat.min_eq_right hl, List.take_length] at h
    refine putE_inj hx hy (s := []) (t := (putE x).drop (putE y).length) ?_
    conv => rhs; lhs; rw [← h]
    rw [List.take_append_drop, List.append_nil]
end Go.Proofs.Ytbcpabfemejlgaa
/- Records, plain: which may be, which bytes they are, any made one that may be. -/
namespace Go.Proofs.Ytbcpabfemejlgaa
open K

/-! ### lists of events in memory -/
def evsC (l : List Ev) : List Value := l.flatMap evC
theorem evC_length (x : Ev) : (evC x).length = 12 := rfl
theorem evsC_cons (x : Ev) (l : List Ev) : evsC (x :: l) = evC x ++ evsC l := List.flatMap_cons
theorem evsC_append (l m : List Ev) : evsC (l ++ m) = evsC l ++ evsC m := List.flatMap_append
theorem evsC_length : ∀ l : List Ev, (evsC l).length = l.length * 12
  | [] => rfl
  | x :: l => by rw [evsC_cons, List.length_append, evC_length, evsC_length l, List.length_cons]; omega
theorem seg_evs0 : ∀ (l : List Ev) (i : Nat) (h : i < l.length), seg (evsC l) (i * 12) 12 = evC l[i]
  | x :: l, 0, _ => by rw [evsC_cons]; rfl
  | x :: l, i + 1, h => by
    have h1 : i < l.length := by simpa using h
    have := seg_evs0 l i h1
    rw [evsC_cons]
    unfold seg at this ⊢
    rw [show (i + 1) * 12 = (evC x).length + i * 12 from by rw [evC_length]; omega, List.drop_append, List.drop_of_length_le (Nat.le_add_right _ _), List.nil_append, Nat.add_sub_cancel_left, this]
    rfl
theorem seg_evs (l : List Ev) (i : Nat) (h : i < l.length) : seg (evsC l) (((i : Nat) : Int).toNat * 12) 12 = evC l[i] := seg_evs0 l i h
theorem evs_le (l : List Ev) (i : Nat) (h : i < l.length) : ((i : Nat) : Int).toNat * 12 + 12 ≤ (evsC l).length := by rw [evsC_length]; show i * 12 + 12 ≤ _; omega
theorem evs_some {w : World} {a : Option Addr} {l : List Ev} (H : Cells w a (evsC l)) {i : Nat} (h : i < l.length) : a.isSome = true := by
  cases l with
  | nil => simp at h
  | cons x l => obtain ⟨ad, rfl, _⟩ := H 0 (.int .i64 x.r) (by rw [evsC_cons]; rfl); rfl
theorem evsC_take (l : List Ev) (n : Nat) : (evsC l).take (n * 12) = evsC (l.take n) := by
  induction l generalizing n with
  | nil => simp [evsC]
  | cons x l ih =>
    cases n with
    | zero => simp [evsC]
    | succ n =>
      rw [List.take_succ_cons, evsC_cons, evsC_cons, show (n + 1) * 12 = (evC x).length + n * 12 from by rw [evC_length]; omega, List.take_length_add_append, ih]
theorem ones_evs : ∀ l : List Ev, ones (evsC l) = true
  | [] => rfl
  | x :: l => by rw [evsC_cons]; exact ones_append rfl (ones_evs l)

/-! ### records -/
structure Rec where
  kind : Int
  r : Int
  upto : Int
  c : Clk
  es : List Ev
deriving DecidableEq
def recV (x : Rec) (a : Option Addr) (cap : Nat) : List Value := [.int .i64 x.kind, .int .i64 x.r, .int .i64 x.upto, .int .i64 x.c.c0, .int .i64 x.c.c1, .int .i64 x.c.c2, .int .i64 x.c.c3, .int .i64 x.c.c4, .slice a x.es.length cap]
/-- What a kind names: a number, a clock, events; and whether it is one. -/
def parts (k : Int) : Bool × Bool × Bool × Bool :=
  if k = 1 ∨ k = 2 ∨ k = 5 then (false, false, true, true) else if k = 3 then (true, false, false, true) else if k = 4 then (true, false, true, true) else if k = 6 then (false, true, false, true) else (false, false, false, false)
def recMay (x : Rec) : Bool :=
  (parts x.kind).2.2.2 && decide (0 ≤ x.r) && decide (x.r < 5) && inEv x.upto && ((parts x.kind).1 || decide (x.upto = 0)) && ((parts x.kind).2.1 || decide (x.c = clk0)) && ((parts x.kind).2.2.1 || decide (x.es.length = 0)) &&
  (decide (x.kind ≠ 1) || decide (x.es.length = 1)) && decide (x.es.length ≤ 4096) && x.c.all inEv && x.es.all (fun y => decide (evMay y = 0))
def clkB (c : Clk) (i : Nat) : List UInt8 := (List.range i).flatMap fun i : Nat => vput (c.get i).toNat
def evsB (l : List Ev) : List UInt8 := l.flatMap putE
def bodyR (x : Rec) : List UInt8 :=
  [UInt8.ofNat x.kind.toNat, UInt8.ofNat x.r.toNat] ++ (if (parts x.kind).1 then vput x.upto.toNat else []) ++ (if (parts x.kind).2.1 then clkB x.c 5 else []) ++ (if (parts x.kind).2.2.1 then vput x.es.length ++ evsB x.es else [])
def putR (x : Rec) : List UInt8 := vput (sealL (bodyR x)).length ++ sealL (bodyR x)
def recPut (x : Rec) : List UInt8 := if recMay x then putR x else []
theorem putR_len (x : Rec) : 7 ≤ (putR x).length := by
  have h1 := vput_pos (sealL (bodyR x)).length
  have h2 : 2 ≤ (bodyR x).length := by unfold bodyR; simp only [List.length_append, List.length_cons, List.length_nil]; omega
  unfold putR
  rw [List.length_append]
  have h3 := sealL_length (bodyR x)
  omega

structure RecOk (x : Rec) : Prop where
  is : (parts x.kind).2.2.2 = true
  r0 : 0 ≤ x.r
  r5 : x.r < 5
  u0 : 0 ≤ x.upto
  u1 : x.upto ≤ 1048576
  pu : (parts x.kind).1 = true ∨ x.upto = 0
  pc : (parts x.kind).2.1 = true ∨ x.c = clk0
  pe : (parts x.kind).2.2.1 = true ∨ x.es = []
  one : x.kind ≠ 1 ∨ x.es.length = 1
  most : x.es.length ≤ 4096
  c : ∀ i, i < 5 → 0 ≤ x.c.get i ∧ x.c.get i ≤ 1048576
  es : ∀ y ∈ x.es, evMay y = 0
theorem recMay_ok {x : Rec} (h : recMay x = true) : RecOk x := by
  simp only [recMay, Bool.and_eq_true, Bool.or_eq_true, decide_eq_true_eq] at h
  obtain ⟨⟨⟨⟨⟨⟨⟨⟨⟨⟨h1, h2⟩, h3⟩, h4⟩, h5⟩, h6⟩, h7⟩, h8⟩, h9⟩, h10⟩, h11⟩ := h
  simp only [inEv, Bool.and_eq_true, decide_eq_true_eq] at h4
  refine ⟨h1, h2, h3, h4.1, h4.2, h5, h6, h7.imp id List.eq_nil_of_length_eq_zero, h8, h9, fun i hi => ?_, fun y hy => ?_⟩
  · have := (Clk.all_iff _ _).1 h10 i hi
    simpa [inEv] using this
  · simpa using List.all_eq_true.1 h11 y hy
theorem recMay_of {x : Rec} (h : RecOk x) : recMay x = true := by
  simp only [recMay, Bool.and_eq_true, Bool.or_eq_true, decide_eq_true_eq]
  refine ⟨⟨⟨⟨⟨⟨⟨⟨⟨⟨h.is, h.r0⟩, h.r5⟩, ?_⟩, h.pu⟩, h.pc⟩, h.pe.imp id (fun e => by rw [e]; rfl)⟩, h.one⟩, h.most⟩, ?_⟩, ?_⟩
  · simp only [inEv, Bool.and_eq_true, decide_eq_true_eq]; exact ⟨h.u0, h.u1⟩
  · rw [Clk.all_iff]; intro i hi; have := h.c i hi; simpa [inEv] using this
  · rw [List.all_eq_true]; intro y hy; simpa using h.es y hy
/-- The code's first question, its second one. -/
def mayA (x : Rec) : Bool := (!(parts x.kind).2.2.2 || decide (x.r < 0) || decide (5 ≤ x.r) || !inEv x.upto || !(parts x.kind).1 && decide (x.upto ≠ 0) || !(parts x.kind).2.1 && !decide (x.c = clk0) || !(parts x.kind).2.2.1 && decide (0 < ((x.es.length : Nat) : Int)))
def mayB (x : Rec) : Bool := (decide (x.kind = 1) && decide (((x.es.length : Nat) : Int) ≠ 1) || decide (4096 < ((x.es.length : Nat) : Int)))
theorem recMay_abc (x : Rec) : recMay x = (!mayA x && !mayB x && x.c.all inEv && x.es.all (fun y => decide (evMay y = 0))) := by
  have e1 : decide (0 ≤ x.r) = !decide (x.r < 0) := by rw [← decide_not]; exact decide_eq_decide.2 (by omega)
  have e2 : decide (x.r < 5) = !decide (5 ≤ x.r) := by rw [← decide_not]; exact decide_eq_decide.2 (by omega)
  have e3 : decide (x.upto = 0) = !decide (x.upto ≠ 0) := by rw [← decide_not]; exact decide_eq_decide.2 (by omega)
  have e4 : decide (x.es.length = 0) = !decide (0 < ((x.es.length : Nat) : Int)) := by rw [← decide_not]; exact decide_eq_decide.2 (by omega)
  have e5 : decide (x.kind ≠ 1) = !decide (x.kind = 1) := by rw [← decide_not]
  have e6 : decide (x.es.length = 1) = !decide (((x.es.length : Nat) : Int) ≠ 1) := by rw [← decide_not]; exact decide_eq_decide.2 (by omega)
  have e7 : decide (x.es.length ≤ 4096) = !decide (4096 < ((x.es.length : Nat) : Int)) := by rw [← decide_not]; exact decide_eq_decide.2 (by omega)
  unfold recMay mayA mayB
  rw [e1, e2, e3, e4, e5, e6, e7]
  generalize (parts x.kind).2.2.2 = b1
  generalize (parts x.kind).1 = b2
  generalize (parts x.kind).2.1 = b3
  generalize (parts x.kind).2.2.1 = b4
  generalize decide (x.r < 0) = b5
  generalize decide (5 ≤ x.r) = b6
  generalize inEv x.upto = b7
  generalize decide (x.upto ≠ 0) = b8
  generalize decide (x.c = clk0) = b9
  generalize decide (0 < ((x.es.length : Nat) : Int)) = b10
  generalize decide (x.kind = 1) = b11
  generalize decide (((x.es.length : Nat) : Int) ≠ 1) = b12
  generalize decide (4096 < ((x.es.length : Nat) : Int)) = b13
  simp only [Bool.not_or, Bool.not_and, Bool.not_not, Bool.and_assoc]
theorem parts_in {k : Int} (h : (parts k).2.2.2 = true) : 1 ≤ k ∧ k ≤ 6 := by
  unfold parts at h
  split at h
  · omega
  · split at h
    · omega
    · split at h
      · omega
      · split at h
        · omega
        · cases h

/-! ### made ones -/
def fit6R (n : Int) : Int := 1 + ((n.tmod 6) + 6).tmod 6
theorem fit6R_in (n : Int) : 1 ≤ fit6R n ∧ fit6R n ≤ 6 := by
  unfold fit6R
  have h := tmod_in n 6 (by decide)
  have h1 := Int.tmod_nonneg 6 (show (0 : Int) ≤ n.tmod 6 + 6 by omega)
  have h2 := Int.tmod_lt_of_pos (n.tmod 6 + 6) (show (0 : Int) < 6 by decide)
  omega
def fitEs (l : List Ev) : List Ev := (l.take 30).map fitEv
def fitRec (x : Rec) : Rec :=
  let k := fit6R x.kind
  if k = 6 then ⟨6, fitR x.r, 0, fitC x.c, []⟩
  else if k = 3 then ⟨3, fitR x.r, m20 x.upto, clk0, []⟩
  else ⟨if k = 1 ∧ (fitEs x.es).length ≠ 1 then 2 else k, fitR x.r, if k = 4 then m20 x.upto else 0, clk0, fitEs x.es⟩
theorem clk0_in (i : Nat) : clk0.get i = 0 := by unfold Clk.get clk0; split <;> rfl
theorem fitEs_len (l : List Ev) : (fitEs l).length ≤ 30 := by rw [fitEs, List.length_map, List.length_take]; omega
theorem fitEs_ok (l : List Ev) : ∀ y ∈ fitEs l, evMay y = 0 := by
  intro y hy
  obtain ⟨x, _, rfl⟩ := List.mem_map.1 hy
  exact fitEv_ok x
theorem fitRec_ok (x : Rec) : RecOk (fitRec x) := by
  have hr := fitR_in x.r
  have hu := m20_in x.upto
  have hk := fit6R_in x.kind
  have hl := fitEs_len x.es
  unfold fitRec
  generalize fit6R x.kind = k at *
  simp only
  split
  · refine ⟨rfl, hr.1, hr.2, Int.le_refl 0, (by decide : (0 : Int) ≤ 1048576), .inr rfl, .inl rfl, .inr rfl, .inl (by decide : (6 : Int) ≠ 1), (by decide : 0 ≤ 4096), fun i hi => ?_, fun y hy => by cases hy⟩
    show 0 ≤ (fitC x.c).get i ∧ (fitC x.c).get i ≤ 1048576
    rw [fitC_get]
    have := m20_in (x.c.get i)
    omega
  · split
    · refine ⟨rfl, hr.1, hr.2, hu.1, ?_, .inl rfl, .inr rfl, .inr rfl, .inl (by show (3 : Int) ≠ 1; decide), by simp, fun i hi => ?_, fun y hy => by cases hy⟩
      · show m20 x.upto ≤ 1048576; omega
      · show 0 ≤ clk0.get i ∧ clk0.get i ≤ 1048576
        rw [clk0_in]; omega
    · rename_i h6 h3
      have hkk : ∀ k', k' = (if k = 1 ∧ (fitEs x.es).length ≠ 1 then 2 else k) → k' = 1 ∨ k' = 2 ∨ k' = 4 ∨ k' = 5 := by
        intro k' h
        split at h <;> omega
      have h1 : (if k = 1 ∧ (fitEs x.es).length ≠ 1 then 2 else k) ≠ 1 ∨ (fitEs x.es).length = 1 := by
        by_cases hq : (fitEs x.es).length = 1
        · exact .inr hq
        · left
          split <;> omega
      have h4 : k ≠ 4 ∨ (if k = 1 ∧ (fitEs x.es).length ≠ 1 then 2 else k) = 4 := by
        by_cases hq : k = 4
        · right; rw [if_neg (by omega)]; exact hq
        · exact .inl hq
      generalize hk' : (if k = 1 ∧ (fitEs x.es).length ≠ 1 then (2 : Int) else k) = k' at *
      have hk2 := hkk k' rfl
      have hp : (parts k').2.2.2 = true ∧ (parts k').2.2.1 = true ∧ (k' = 4 → (parts k').1 = true) := by
        rcases hk2 with rfl | rfl | rfl | rfl <;> decide
      refine ⟨hp.1, hr.1, hr.2, ?_, ?_, ?_, .inr rfl, .inl hp.2.1, h1, by show (fitEs x.es).length ≤ 4096; omega, fun i hi => ?_, fitEs_ok x.es⟩
      · show 0 ≤ (if k = 4 then m20 x.upto else 0); split <;> omega
      · show (if k = 4 then m20 x.upto else 0) ≤ 1048576; split <;> omega
      · show (parts k').1 = true ∨ (if k = 4 then m20 x.upto else 0) = 0
        rcases h4 with h4 | h4
        · right; exact if_neg h4
        · exact .inl (hp.2.2 h4)
      · show 0 ≤ clk0.get i ∧ clk0.get i ≤ 1048576
        rw [clk0_in]; omega
end Go.Proofs.Ytbcpabfemejlgaa
