/- Configs: which may be, one made that may be; edit.May, kithref11: walks. -/
import Derived.Test.YtbcpabfemejlgaaM13
import Derived.Test.YtbcpabfemejlgaaM3
import Derived.Test.YtbcpabfemejlgaaM7
import Derived.Test.YtbcpabfemejlgaaM4
import Derived.Test.YtbcpabfemejlgaaM8
import Derived.Test.YtbcpabfemejlgaaM11
import Derived.Test.YtbcpabfemejlgaaM9
import Derived.Test.YtbcpabfemejlgaaM10
import Derived.Test.YtbcpabfemejlgaaM5
namespace Go.Proofs.Ytbcpabfemejlgaa
open K
set_option maxRecDepth 100000
set_option maxHeartbeats 4000000

def cfv (c : Cf) : Nat → Int
  | 0 => c.n | 1 => c.w | 2 => c.q | 3 => c.h | 4 => c.l | _ => c.p
def cfm : Nat → Int
  | 0 => 5 | 1 => 4 | 2 => 8 | 3 => 20 | 4 => 4 | _ => 3
def cfOk (c : Cf) (i : Nat) : Bool := decide (1 ≤ cfv c i) && decide (cfv c i ≤ cfm i)
def cfMay (c : Cf) : Bool := cfOk c 0 && cfOk c 1 && cfOk c 2 && cfOk c 3 && cfOk c 4 && cfOk c 5
theorem cfMay_all {c : Cf} : cfMay c = true ↔ ∀ i, i < 6 → cfOk c i = true := by
  unfold cfMay
  simp only [Bool.and_eq_true]
  constructor
  · rintro ⟨⟨⟨⟨⟨h0, h1⟩, h2⟩, h3⟩, h4⟩, h5⟩ i hi
    match i, hi with
    | 0, _ => exact h0 | 1, _ => exact h1 | 2, _ => exact h2 | 3, _ => exact h3 | 4, _ => exact h4 | 5, _ => exact h5
  · intro h
    exact ⟨⟨⟨⟨⟨h 0 (by decide), h 1 (by decide)⟩, h 2 (by decide)⟩, h 3 (by decide)⟩, h 4 (by decide)⟩, h 5 (by decide)⟩
def cfA (c : Cf) : List Value := [.int .i64 c.n, .int .i64 5, .int .i64 c.w, .int .i64 4, .int .i64 c.q, .int .i64 8, .int .i64 c.h, .int .i64 20, .int .i64 c.l, .int .i64 4, .int .i64 c.p, .int .i64 3]
theorem cfA_seg (c : Cf) (i : Nat) (hi : i < 6) : seg (cfA c) (((i : Nat) : Int).toNat * 2) 2 = [.int .i64 (cfv c i), .int .i64 (cfm i)] := by
  match i, hi with
  | 0, _ => rfl | 1, _ => rfl | 2, _ => rfl | 3, _ => rfl | 4, _ => rfl | 5, _ => rfl
theorem c_eMay (c : Cf) (w : World) : Cl Try.prog 18 #[.agg (cfC c).toArray] w (fun v w' => v = .bool (cfMay c) ∧ Chg No w w') := by
  refine f_enter (args := [_]) Try.func18 rfl rfl ?_
  have mm := Mem.nil No w
  refine c_sreg rfl ?_
  refine so (o_bxa mm rfl fun b2 w2 mm => ?_)
  refine s1 (r_asb rfl) ?_
  refine wn ?_
  have mm : Mem w No _ [bk b2 (cfC c) 23] := mm
  refine c_seq ?_
  refine c_sreg rfl ?_
  refine s1 (r_fa rfl) ?_
  refine s1 (r_ld rfl (mm.b 0 rfl) rfl) ?_
  refine s1 (r_bd (bi rfl (bi rfl bN)) rfl) ?_
  refine s1 (r_fa rfl) ?_
  refine s1 (r_ld rfl (mm.b 0 rfl) rfl) ?_
  refine s1 (r_bd (bi rfl (bi rfl bN)) rfl) ?_
  refine s1 (r_fa rfl) ?_
  refine s1 (r_ld rfl (mm.b 0 rfl) rfl) ?_
  refine s1 (r_bd (bi rfl (bi rfl bN)) rfl) ?_
  refine s1 (r_fa rfl) ?_
  refine s1 (r_ld rfl (mm.b 0 rfl) rfl) ?_
  refine s1 (r_bd (bi rfl (bi rfl bN)) rfl) ?_
  refine s1 (r_fa rfl) ?_
  refine s1 (r_ld rfl (mm.b 0 rfl) rfl) ?_
  refine s1 (r_bd (bi rfl (bi rfl bN)) rfl) ?_
  refine s1 (r_fa rfl) ?_
  refine s1 (r_ld rfl (mm.b 0 rfl) rfl) ?_
  refine s1 (r_bd (bi rfl (bi rfl bN)) rfl) ?_
  refine s1 (r_bd (bg rfl (bg rfl (bg rfl (bg rfl (bg rfl (bg rfl bN)))))) rfl) ?_
  refine s1 (r_mvi rfl) ?_
  refine wn ?_
  have mm := mm.pk [] (by decide)
  refine c_block ?_
  refine c_loop (fun kk e w' => ∃ i : Nat, kk + i = 6 ∧ e 23 = .agg (cfA c).toArray ∧ e 24 = .int .i64 (i : Nat) ∧ Mem w No w' [] ∧ ∀ j, j < i → cfOk c j = true) 6 ?_ ?_
  · exact ⟨0, rfl, rfl, rfl, mm, fun j hj => absurd hj (by omega)⟩
  clear mm
  rintro kk e w9 ⟨i, hki, h23, h24, mm, hh⟩
  refine c_sreg rfl ?_
  refine s1 (r_lt h24 rfl) ?_
  refine wn ?_
  refine c_seq ?_
  refine c_cond rfl (fun h => (c_skip (t_n ?_))) (fun h => (c_exit (t_x (t_x (b_x (t_n ?_))))))
  · have hi : i < 6 := by simp at h; omega
    clear h
    refine c_seq ?_
    refine c_block ?_
    refine c_sreg rfl ?_
    refine s1 (r_ixva h23 h24 (by omega) (by omega) (cfA_seg c i hi)) ?_
    refine so (o_al mm fun b3 w3 mm => ?_)
    refine ss (o_sta mm 0 rfl rfl rfl rfl rfl (Nat.le_of_ble_eq_true rfl) fun w4 mm => ?_)
    refine wn ?_
    have mm : Mem w No _ [bk b3 [.int .i64 (cfv c i), .int .i64 (cfm i)] 88] := mm
    refine c_sreg rfl ?_
    refine s1 (r_ixa rfl rfl (by omega) (by omega)) ?_
    refine s1 (r_ld rfl (mm.b 0 rfl) rfl) ?_
    refine s1 (r_lt rfl rfl) ?_
    refine s1 (r_mvb rfl) ?_
    refine sF rfl rfl (fun h => r_ixa rfl rfl (by omega) (by omega)) ?_
    refine sF rfl rfl (fun h => r_ld (sel_t h :) (mm.b 0 rfl) rfl) ?_
    refine sF rfl rfl (fun h => r_ixa rfl rfl (by omega) (by omega)) ?_
    refine sF rfl rfl (fun h => r_ld (sel_t h :) (mm.b 0 rfl) rfl) ?_
    refine sF rfl rfl (fun h => r_gt (sel_t h :) (sel_t h :)) ?_
    refine s1 (r_or rfl rfl) ?_
    refine wn ?_
    refine c_cond rfl (fun h => ?_) (fun h => (c_skip (b_n (t_n ?_))))
    · refine c_sreg rfl ?_
      refine s1 (r_asb rfl) ?_
      refine wn ?_
      refine c_ret (ret1 rfl rfl ⟨congrArg Value.bool ?_, mm.chg⟩)
      refine (Bool.eq_false_iff.2 fun hm => ?_).symm
      have h1 := cfMay_all.1 hm i hi
      unfold cfOk at h1
      simp at h1 h
      omega
    have hok : cfOk c i = true := by
      unfold cfOk
      simp at h ⊢
      omega
    clear h
    refine c_region rfl ?_
    refine s1 (r_add h24 rfl (wi (by omega) (by omega))) ?_
    refine s1 (r_mvi rfl) ?_
    refine wn (t_n ?_)
    refine ⟨kk - 1, by omega, i + 1, by omega, h23, rfl, mm.pk [] (by decide), fun j hj => ?_⟩
    rcases Nat.lt_or_ge j i with hlt | hge
    · exact hh j hlt
    · obtain rfl : j = i := by omega
      exact hok
  have hi : i = 6 := by simp at h; omega
  subst hi
  clear h
  refine c_sreg rfl ?_
  refine s1 (r_asb rfl) ?_
  refine wn ?_
  exact c_ret (ret1 rfl rfl ⟨congrArg Value.bool (cfMay_all.2 hh).symm, mm.chg⟩)
theorem c_in11 (n m : Int) (w : World) : Cl Try.prog 21 #[.int .i64 n, .int .i64 m] w (fun v w' => v = .bool (decide (1 ≤ n) && decide (n ≤ m)) ∧ Chg No w w') := by
  refine f_enter (args := [_, _]) Try.func21 rfl rfl ?_
  have mm := Mem.nil No w
  refine c_sreg rfl ?_
  refine s1 (r_asb rfl) ?_
  refine wn ?_
  refine c_sreg rfl ?_
  refine s1 (r_mvi rfl) ?_
  refine s1 (r_ge rfl rfl) ?_
  refine s1 (r_mvb rfl) ?_
  refine sT rfl rfl (fun h => r_mvi rfl) ?_
  refine sT rfl rfl (fun h => r_mvi rfl) ?_
  refine sT rfl rfl (fun h => r_le (sel_t h :) (sel_t h :)) ?_
  refine s1 (r_and rfl rfl) ?_
  refine s1 (r_asb rfl) ?_
  refine wn ?_
  exact c_ret (ret1 rfl rfl ⟨rfl, mm.chg⟩)
theorem c_may11 (c : Cf) (w : World) : Cl Try.prog 8 #[.agg (cfC c).toArray] w (fun v w' => v = .bool (cfMay c) ∧ Chg No w w') := by
  refine f_enter (args := [_]) Try.func8 rfl rfl ?_
  have mm := Mem.nil No w
  refine c_sreg rfl ?_
  refine so (o_bxa mm rfl fun b2 w2 mm => ?_)
  refine s1 (r_asb rfl) ?_
  refine wn ?_
  have mm : Mem w No _ [bk b2 (cfC c) 23] := mm
  refine c_sreg rfl ?_
  refine s1 (r_fa rfl) ?_
  refine s1 (r_ld rfl (mm.b 0 rfl) rfl) ?_
  refine so (o_c2 rfl rfl (c_in11 _ _ _) ?_)
  rintro _ w3 ⟨rfl, hc⟩
  have mm := mm.frame hc
  refine s1 (r_mvb rfl) ?_
  refine sT rfl rfl (fun h => r_fa rfl) ?_
  refine sT rfl rfl (fun h => r_ld (sel_t h :) (mm.b 0 rfl) rfl) ?_
  refine sTw (I := Sof mm) rfl rfl mm (fun h => o_c2 (sel_t h :) rfl (c_in11 _ _ _) (fun _ _ hh => ⟨hh.1, mm.frame hh.2⟩)) (fun w4 mm => ?_)
  refine s1 (r_and rfl rfl) ?_
  refine s1 (r_mvb rfl) ?_
  refine sT rfl rfl (fun h => r_fa rfl) ?_
  refine sT rfl rfl (fun h => r_ld (sel_t h :) (mm.b 0 rfl) rfl) ?_
  refine sTw (I := Sof mm) rfl rfl mm (fun h => o_c2 (sel_t h :) rfl (c_in11 _ _ _) (fun _ _ hh => ⟨hh.1, mm.frame hh.2⟩)) (fun w5 mm => ?_)
  refine s1 (r_and rfl rfl) ?_
  refine s1 (r_mvb rfl) ?_
  refine sT rfl rfl (fun h => r_fa rfl) ?_
  refine sT rfl rfl (fun h => r_ld (sel_t h :) (mm.b 0 rfl) rfl) ?_
  refine sTw (I := Sof mm) rfl rfl mm (fun h => o_c2 (sel_t h :) rfl (c_in11 _ _ _) (fun _ _ hh => ⟨hh.1, mm.frame hh.2⟩)) (fun w6 mm => ?_)
  refine s1 (r_and rfl rfl) ?_
  refine s1 (r_mvb rfl) ?_
  refine sT rfl rfl (fun h => r_fa rfl) ?_
  refine sT rfl rfl (fun h => r_ld (sel_t h :) (mm.b 0 rfl) rfl) ?_
  refine sTw (I := Sof mm) rfl rfl mm (fun h => o_c2 (sel_t h :) rfl (c_in11 _ _ _) (fun _ _ hh => ⟨hh.1, mm.frame hh.2⟩)) (fun w7 mm => ?_)
  refine s1 (r_and rfl rfl) ?_
  refine s1 (r_mvb rfl) ?_
  refine sT rfl rfl (fun h => r_fa rfl) ?_
  refine sT rfl rfl (fun h => r_ld (sel_t h :) (mm.b 0 rfl) rfl) ?_
  refine sTw (I := Sof mm) rfl rfl mm (fun h => o_c2 (sel_t h :) rfl (c_in11 _ _ _) (fun _ _ hh => ⟨hh.1, mm.frame hh.2⟩)) (fun w8 mm => ?_)
  refine s1 (r_and rfl rfl) ?_
  refine s1 (r_asb rfl) ?_
  refine wn ?_
  exact c_ret (ret1 rfl rfl ⟨rfl, mm.chg⟩)
def fitM (n m : Int) : Int := 1 + (n.tmod m + m).tmod m
def cfFit (c : Cf) : Cf := ⟨fitM c.n 5, fitM c.w 4, fitM c.q 8, fitM c.h 20, fitM c.l 4, fitM c.p 3⟩
theorem fitM_in (n m : Int) (h : 0 < m) : 1 ≤ fitM n m ∧ fitM n m ≤ m := by
  unfold fitM
  have h1 := tmod_in n m h
  have h2 := Int.tmod_nonneg m (show 0 ≤ n.tmod m + m by omega)
  have h3 := Int.tmod_lt_of_pos (n.tmod m + m) h
  omega
theorem cfFit_may (c : Cf) : cfMay (cfFit c) = true := by
  rw [cfMay_all]
  intro i hi
  unfold cfOk
  simp only [Bool.and_eq_true, decide_eq_true_eq]
  match i, hi with
  | 0, _ => exact fitM_in _ 5 (by decide) | 1, _ => exact fitM_in _ 4 (by decide) | 2, _ => exact fitM_in _ 8 (by decide)
  | 3, _ => exact fitM_in _ 20 (by decide) | 4, _ => exact fitM_in _ 4 (by decide) | 5, _ => exact fitM_in _ 3 (by decide)
theorem fitM_w (n m : Int) (h : 0 < m) (h2 : m ≤ 1000) : IntKind.i64.wrap (n.tmod m + m) = n.tmod m + m ∧ IntKind.i64.wrap (1 + (n.tmod m + m).tmod m) = fitM n m := by
  have h1 := tmod_in n m h
  have h3 := fitM_in n m h
  exact ⟨wi (by omega) (by omega), wi (n := fitM n m) (by omega) (by omega)⟩
theorem c_fit11 (c : Cf) (w : World) : Cl Try.prog 10 #[.agg (cfC c).toArray] w (fun v w' => v = .agg (cfC (cfFit c)).toArray ∧ Chg No w w') := by
  refine f_enter (args := [_]) Try.func10 rfl rfl ?_
  have mm := Mem.nil No w
  have f1 := fitM_w c.n 5 (by decide) (by decide)
  have f2 := fitM_w c.w 4 (by decide) (by decide)
  have f3 := fitM_w c.q 8 (by decide) (by decide)
  have f4 := fitM_w c.h 20 (by decide) (by decide)
  have f5 := fitM_w c.l 4 (by decide) (by decide)
  have f6 := fitM_w c.p 3 (by decide) (by decide)
  refine c_sreg rfl ?_
  refine so (o_bxa mm rfl fun b2 w2 mm => ?_)
  refine so (o_al mm fun b3 w3 mm => ?_)
  refine wn ?_
  have mm : Mem w No _ [bk b2 (cfC c) 23, bk b3 (cfC ⟨0, 0, 0, 0, 0, 0⟩) 23] := mm
  refine c_sreg rfl ?_
  refine s1 (r_fa rfl) ?_
  refine s1 (r_ld rfl (mm.b 0 rfl) rfl) ?_
  refine s1 (r_rem rfl rfl (by decide) rfl) ?_
  refine s1 (r_add rfl rfl f1.1) ?_
  refine s1 (r_rem rfl rfl (by decide) rfl) ?_
  refine s1 (r_add rfl rfl f1.2) ?_
  refine s1 (r_fa rfl) ?_
  refine s1 (r_ld rfl (mm.b 0 rfl) rfl) ?_
  refine s1 (r_rem rfl rfl (by decide) rfl) ?_
  refine s1 (r_add rfl rfl f2.1) ?_
  refine s1 (r_rem rfl rfl (by decide) rfl) ?_
  refine s1 (r_add rfl rfl f2.2) ?_
  refine s1 (r_fa rfl) ?_
  refine s1 (r_ld rfl (mm.b 0 rfl) rfl) ?_
  refine s1 (r_rem rfl rfl (by decide) rfl) ?_
  refine s1 (r_add rfl rfl f3.1) ?_
  refine s1 (r_rem rfl rfl (by decide) rfl) ?_
  refine s1 (r_add rfl rfl f3.2) ?_
  refine s1 (r_fa rfl) ?_
  refine s1 (r_ld rfl (mm.b 0 rfl) rfl) ?_
  refine s1 (r_rem rfl rfl (by decide) rfl) ?_
  refine s1 (r_add rfl rfl f4.1) ?_
  refine s1 (r_rem rfl rfl (by decide) rfl) ?_
  refine s1 (r_add rfl rfl f4.2) ?_
  refine s1 (r_fa rfl) ?_
  refine s1 (r_ld rfl (mm.b 0 rfl) rfl) ?_
  refine s1 (r_rem rfl rfl (by decide) rfl) ?_
  refine s1 (r_add rfl rfl f5.1) ?_
  refine s1 (r_rem rfl rfl (by decide) rfl) ?_
  refine s1 (r_add rfl rfl f5.2) ?_
  refine s1 (r_fa rfl) ?_
  refine s1 (r_ld rfl (mm.b 0 rfl) rfl) ?_
  refine s1 (r_rem rfl rfl (by decide) rfl) ?_
  refine s1 (r_add rfl rfl f6.1) ?_
  refine s1 (r_rem rfl rfl (by decide) rfl) ?_
  refine s1 (r_add rfl rfl f6.2) ?_
  refine s1 (r_bd (bi rfl (bi rfl (bi rfl (bi rfl (bi rfl (bi rfl bN)))))) rfl) ?_
  refine ss (o_sta mm 1 rfl rfl rfl rfl rfl (Nat.le_of_ble_eq_true rfl) fun w4 mm => ?_)
  refine wn ?_
  have mm : Mem w No _ [bk b2 (cfC c) 23, bk b3 (cfC (cfFit c)) 23] := mm
  exact c_ret (retc rfl rfl (mm.b 1 rfl) rfl ⟨rfl, mm.chg⟩)
end Go.Proofs.Ytbcpabfemejlgaa
/- disk.Disk's methods: plain, and walks. -/
namespace Go.Proofs.Ytbcpabfemejlgaa
open K
set_option maxRecDepth 100000
set_option maxHeartbeats 4000000

structure Dk where
  b : List UInt8
  down : Bool
  cut : Option Int
def dkWrite (d : Dk) (b : List UInt8) : Dk × Int :=
  if d.down = true then (d, 18) else match d.cut with
  | none => ({ d with b := d.b ++ b }, 0)
  | some n => (⟨d.b ++ b.take (min (max n 0) (b.length : Nat)).toNat, true, none⟩, 18)
def keepK : List UInt8 := [107, 101, 101, 112]
def dkB (d : Dk) (a : Option Addr) (c qm : Nat) : List Value := [.slice a d.b.length c, .bool d.down, .map (some qm)]
def dkI (q : Nat) (a : Option Addr) (c qm : Nat) (d : Dk) : It := listI [bk q (dkB d a c qm) 98, own 5 1 a d.b.length c (u8s d.b), keyI keepK qm d.cut]
section
variable {w : World} {q c qm : Nat} {a : Option Addr} {d : Dk}
theorem dk_open (hI : (dkI q a c qm d).holds w) : Mem w (dkI q a c qm d).foot w [bk q (dkB d a c qm) 98, own 5 1 a d.b.length c (u8s d.b), keyI keepK qm d.cut] := (Mem.one hI).open
theorem c_dkNew (w : World) : Cl Try.prog 20 #[] w (fun r w' => ∃ q qm, r = .pointer (some ⟨q, 0, none⟩) ∧ Chg No w w' ∧ New w w' (dkI q none 0 qm ⟨[], false, none⟩)) := by
  refine f_enter (args := []) Try.func20 rfl rfl ?_
  have mm := Mem.nil No w
  refine c_sreg rfl ?_
  refine s1 (r_asp rfl) ?_
  refine wn ?_
  refine c_sreg rfl ?_
  refine so (o_mkk mm keepK fun b2 w2 mm => ?_)
  refine s1 (r_bd (bv rfl bN) rfl) ?_
  refine so (o_bxa mm rfl fun b3 w3 mm => ?_)
  refine s1 (r_asp rfl) ?_
  refine wn ?_
  have mm := mm.nilrow (T := 5) (sz := 1)
  have mm : Mem w No _ [bk b3 (dkB ⟨[], false, none⟩ none 0 b2) 98, own 5 1 none 0 0 (u8s []), keyI keepK b2 none] := mm.pk [1, 2, 0] (by decide)
  exact c_ret (ret1 rfl rfl ⟨b3, b2, rfl, mm.chg, mm.close.isNew 0 rfl⟩)
theorem c_dkCut (n : Int) (hI : (dkI q a c qm d).holds w) : Cl Try.prog 32 #[.pointer (some ⟨q, 0, none⟩), .int .i64 n] w (fun r w' => r = .tuple #[] ∧ Mem w (dkI q a c qm d).foot w' [dkI q a c qm { d with cut := some n }]) := by
  have mm := dk_open hI
  generalize hF0 : (dkI q a c qm d).foot = F0 at mm
  refine f_enter (args := [_, _]) Try.func32 rfl rfl ?_
  refine c_region rfl ?_
  refine s1 (r_mvp rfl) ?_
  refine s1 (r_nil rfl) ?_
  refine s1 (r_fa rfl) ?_
  refine s1 (r_ld rfl (mm.b 0 rfl) rfl) ?_
  refine s1 (r_mvi rfl) ?_
  refine ss (o_upk mm 2 rfl Try.underlying96 Try.underlying9 rfl rfl rfl fun w2 mm => ?_)
  refine wn (body_n ?_)
  have mm : Mem w F0 _ [bk q (dkB { d with cut := some n } a c qm) 98, own 5 1 a d.b.length c (u8s d.b), keyI keepK qm (some n)] := mm
  exact ret0 rfl ⟨rfl, mm.close⟩
theorem c_dkCrash (hI : (dkI q a c qm d).holds w) : Cl Try.prog 95 #[.pointer (some ⟨q, 0, none⟩)] w (fun r w' => r = .tuple #[] ∧ Mem w (dkI q a c qm d).foot w' [dkI q a c qm ⟨d.b, true, none⟩]) := by
  have mm := dk_open hI
  generalize hF0 : (dkI q a c qm d).foot = F0 at mm
  refine f_enter (args := [_]) Try.func95 rfl rfl ?_
  refine c_sreg rfl ?_
  refine s1 (r_mvp rfl) ?_
  refine s1 (r_nil rfl) ?_
  refine s1 (r_fa rfl) ?_
  refine s1 (r_ld rfl (mm.b 0 rfl) rfl) ?_
  refine ss (o_clk mm 2 rfl Try.underlying96 rfl fun w2 mm => ?_)
  refine wn ?_
  refine c_region rfl ?_
  refine s1 (r_mvp rfl) ?_
  refine s1 (r_nil rfl) ?_
  refine s1 (r_fa rfl) ?_
  refine ss (o_st mm 0 rfl rfl rfl rfl rfl fun w3 mm => ?_)
  refine wn (body_n ?_)
  have mm : Mem w F0 _ [bk q (dkB ⟨d.b, true, none⟩ a c qm) 98, own 5 1 a d.b.length c (u8s d.b), keyI keepK qm none] := mm
  exact ret0 rfl ⟨rfl, mm.close⟩
theorem c_dkStart (hI : (dkI q a c qm d).holds w) : Cl Try.prog 33 #[.pointer (some ⟨q, 0, none⟩)] w (fun r w' => r = .tuple #[] ∧ Mem w (dkI q a c qm d).foot w' [dkI q a c qm ⟨d.b, false, none⟩]) := by
  have mm := dk_open hI
  generalize hF0 : (dkI q a c qm d).foot = F0 at mm
  refine f_enter (args := [_]) Try.func33 rfl rfl ?_
  refine c_sreg rfl ?_
  refine s1 (r_mvp rfl) ?_
  refine s1 (r_nil rfl) ?_
  refine s1 (r_fa rfl) ?_
  refine s1 (r_ld rfl (mm.b 0 rfl) rfl) ?_
  refine ss (o_clk mm 2 rfl Try.underlying96 rfl fun w2 mm => ?_)
  refine wn ?_
  refine c_region rfl ?_
  refine s1 (r_mvp rfl) ?_
  refine s1 (r_nil rfl) ?_
  refine s1 (r_fa rfl) ?_
  refine ss (o_st mm 0 rfl rfl rfl rfl rfl fun w3 mm => ?_)
  refine wn (body_n ?_)
  have mm : Mem w F0 _ [bk q (dkB ⟨d.b, false, none⟩ a c qm) 98, own 5 1 a d.b.length c (u8s d.b), keyI keepK qm none] := mm
  exact ret0 rfl ⟨rfl, mm.close⟩
theorem c_dkBytes (hl : d.b.length ≤ 1099511627776) (hI : (dkI q a c qm d).holds w) : Cl Try.prog 35 #[.pointer (some ⟨q, 0, none⟩)] w (fun r w' => ∃ a' c', r = .slice a' d.b.length c' ∧ Chg No w w' ∧ New w w' (own 5 1 a' d.b.length c' (u8s d.b))) := by
  have m0 := dk_open hI
  have hb := m0.b 0 rfl
  have Hc := m0.c 1 rfl
  have hcc := own_le (m0.o 1 rfl)
  have hlt := (Array.getElem?_eq_some_iff.1 hb).1
  have hB : ∀ {w' : World} {L : List It}, Mem w No w' L → w'.heap[q]? = some (.cells (dkB d a c qm).toArray 98 (0, 0)) := fun m => (m.chg.same q hlt (fun h => h)).trans hb
  refine f_enter (args := [_]) Try.func35 rfl rfl ?_
  have mm := Mem.nil No w
  refine c_sreg rfl ?_
  refine s1 (r_ass rfl) ?_
  refine wn ?_
  refine c_sreg rfl ?_
  refine s1 (r_mvp rfl) ?_
  refine s1 (r_nil rfl) ?_
  refine s1 (r_fa rfl) ?_
  refine s1 (r_ld rfl ((hB) mm) rfl) ?_
  refine so (o_c1 rfl (c_clone d.b hl _ _ ⟨_, _, rfl, hcc, mm.ro Hc⟩) ?_)
  rintro _ w2 ⟨a2, c2, rfl, hc, hn⟩
  have mm := mm.new hc hn
  refine s1 (r_ass rfl) ?_
  refine wn ?_
  exact c_ret (ret1 rfl rfl ⟨_, _, rfl, mm.chg, mm.isNew 0 rfl⟩)
theorem c_dkTrim (n : Nat) (hn : n ≤ d.b.length) (hl : d.b.length ≤ 1099511627776) (hI : (dkI q a c qm d).holds w) : Cl Try.prog 36 #[.pointer (some ⟨q, 0, none⟩), .int .i64 (n : Nat)] w (fun r w' => ∃ a' c', r = .tuple #[] ∧ Mem w (dkI q a c qm d).foot w' [dkI q a' c' qm { d with b := d.b.take n }]) := by
  have mm := dk_open hI
  have hcc := own_le (mm.o 1 rfl)
  generalize hF0 : (dkI q a c qm d).foot = F0 at mm
  refine f_enter (args := [_, _]) Try.func36 rfl rfl ?_
  refine c_sreg rfl ?_
  refine s1 (r_mvi rfl) ?_
  refine s1 (r_ge rfl rfl) ?_
  refine s1 (r_mvb rfl) ?_
  refine sT rfl rfl (fun h => r_mvi rfl) ?_
  refine sT rfl rfl (fun h => r_mvp rfl) ?_
  refine sT rfl rfl (fun h => r_nil (sel_t h :)) ?_
  refine sT rfl rfl (fun h => r_fa (sel_t h :)) ?_
  refine sT rfl rfl (fun h => r_ld (sel_t h :) (mm.b 0 rfl) rfl) ?_
  refine sT rfl rfl (fun h => r_len (sel_t h :)) ?_
  refine sT rfl rfl (fun h => r_le (sel_t h :) (sel_t h :)) ?_
  refine s1 (r_and rfl rfl) ?_
  refine wn ?_
  refine c_cond rfl (fun h => ?_) (fun h => (c_skip (body_n ?_)))
  rotate_left
  · exfalso
    simp at h
    omega
  clear h
  have Ht : ∀ {w' : World} {L : List It}, Mem w F0 w' ([bk q (dkB d a c qm) 98, own 5 1 a d.b.length c (u8s d.b)] ++ L) → Sl w' (.slice a ((n : Nat) : Int).toNat c) (d.b.take n) := fun m =>
    ⟨a, c, by rw [List.length_take, Nat.min_eq_left hn]; rfl, by rw [List.length_take]; omega, by rw [u8s, List.map_take]; exact (m.c 1 rfl).take _⟩
  have htl : (d.b.take n).length ≤ d.b.length := by rw [List.length_take]; omega
  refine c_region rfl ?_
  refine s1 (r_mvp rfl) ?_
  refine s1 (r_mvp rfl) ?_
  refine s1 (r_nil rfl) ?_
  refine s1 (r_fa rfl) ?_
  refine s1 (r_ld rfl (mm.b 0 rfl) rfl) ?_
  refine s1 (r_mvi rfl) ?_
  refine s1 (r_slh rfl rfl (by omega) (by omega)) ?_
  refine so (o_c1 rfl (c_clone (d.b.take n) (by omega) _ _ (Ht (L := [keyI keepK qm d.cut]) mm)) ?_)
  rintro _ w2 ⟨a2, c2, rfl, hc, hn'⟩
  have mm := mm.new hc hn'
  refine s1 (r_nil rfl) ?_
  refine s1 (r_fa rfl) ?_
  refine ss (o_st mm 0 rfl rfl rfl rfl rfl fun w3 mm => ?_)
  refine wn (body_n ?_)
  have mm : Mem w F0 _ [bk q (dkB { d with b := d.b.take n } a2 c2 qm) 98, own 5 1 a2 (d.b.take n).length c2 (u8s (d.b.take n)), keyI keepK qm d.cut] := mm.pk [0, 3, 2] (by decide)
  exact ret0 rfl ⟨a2, c2, rfl, mm.close⟩
theorem c_dkWrite (b : List UInt8) (hb : b.length ≤ 1000000000) (hl : d.b.length ≤ 1000000000) (al : Option Addr) (cl : Nat) (hcl : b.length ≤ cl) (hI : (dkI q a c qm d).holds w) (HS : Stab (dkI q a c qm d) w (fun w' => Cells w' al (u8s b))) :
    Cl Try.prog 71 #[.pointer (some ⟨q, 0, none⟩), .slice al b.length cl] w (fun r w' => ∃ a' c', r = .int .i64 (dkWrite d b).2 ∧ Mem w (dkI q a c qm d).foot w' [dkI q a' c' qm (dkWrite d b).1]) := by
  have mm := dk_open hI
  have hcc := own_le (mm.o 1 rfl)
  have HS : ∀ w', Chg (dkI q a c qm d).foot w w' → Cells w' al (u8s b) := HS
  generalize hF0 : (dkI q a c qm d).foot = F0 at mm HS
  refine f_enter (args := [_, _]) Try.func71 rfl rfl ?_
  refine c_sreg rfl ?_
  refine s1 (r_asi rfl) ?_
  refine wn ?_
  refine c_seq ?_
  refine c_sreg rfl ?_
  refine s1 (r_mvp rfl) ?_
  refine s1 (r_nil rfl) ?_
  refine s1 (r_fa rfl) ?_
  refine s1 (r_ld rfl (mm.b 0 rfl) rfl) ?_
  refine wn ?_
  refine c_cond rfl (fun h => ?_) (fun h => (c_skip (t_n ?_)))
  · have e1 : dkWrite d b = (d, 18) := if_pos h
    refine c_sreg rfl ?_
    refine s1 (r_asi rfl) ?_
    refine wn ?_
    rw [e1]
    exact c_ret (ret1 rfl rfl ⟨a, c, rfl, mm.close⟩)
  refine c_sreg rfl ?_
  refine s1 (r_mvp rfl) ?_
  refine s1 (r_nil rfl) ?_
  refine s1 (r_fa rfl) ?_
  refine s1 (r_ld rfl (mm.b 0 rfl) rfl) ?_
  refine s1 (r_lkk mm 2 rfl Try.underlying96 Try.underlying9 (by kernel_rfl) rfl rfl) ?_
  refine s1 (r_mvu rfl) ?_
  refine s1 (r_exti rfl rfl) ?_
  refine s1 (r_extb rfl rfl) ?_
  refine s1 (r_asi rfl) ?_
  refine s1 (r_asb rfl) ?_
  refine wn ?_
  refine c_seq ?_
  refine c_sreg rfl ?_
  refine s1 (r_mvb rfl) ?_
  refine s1 (r_not rfl) ?_
  refine wn ?_
  refine c_cond rfl (fun h => ?_) (fun h => (c_skip (t_n ?_)))
  · have hcut : d.cut = none := by
      cases hk : d.cut with
      | none => rfl
      | some n => rw [hk] at h; cases h
    rename_i hd
    have e1 : dkWrite d b = ({ d with b := d.b ++ b }, 0) := by unfold dkWrite; rw [if_neg (by rw [hd]; decide), hcut]
    refine c_sreg rfl ?_
    refine s1 (r_mvp rfl) ?_
    refine s1 (r_mvp rfl) ?_
    refine s1 (r_nil rfl) ?_
    refine s1 (r_fa rfl) ?_
    refine s1 (r_ld rfl (mm.b 0 rfl) rfl) ?_
    refine s1 (r_mvs rfl) ?_
    refine so (o_ap mm 1 rfl rfl rfl (src_cells (HS _ mm.chg) (by rw [u8s_length]; omega) (ones_u8s _) (by decide)) (by omega) (by unfold maxLen; omega) fun a2 c2 w2 mm => ?_)
    refine s1 (r_nil rfl) ?_
    refine s1 (r_fa rfl) ?_
    refine ss (o_st mm 0 rfl rfl rfl rfl rfl fun w3 mm => ?_)
    refine wn ?_
    refine c_sreg rfl ?_
    refine s1 (r_asi rfl) ?_
    refine wn ?_
    rw [e1]
    have hle : (d.b ++ b).length = d.b.length + b.length := List.length_append
    have e3 : [bk q (dkB { d with b := d.b ++ b } a2 c2 qm) 98, own 5 1 a2 (d.b ++ b).length c2 (u8s (d.b ++ b)), keyI keepK qm d.cut] = [bk q [.slice a2 (d.b.length + b.length) c2, .bool d.down, .map (some qm)] 98, own 5 1 a2 (d.b.length + b.length) c2 (u8s d.b ++ u8s b), keyI keepK qm d.cut] := by unfold dkB; rw [hle, u8s_append]
    have mm := Mem.castL (mm.pk [0, 1, 2] (by decide)) e3.symm
    exact c_ret (ret1 rfl rfl ⟨_, _, rfl, mm.close⟩)
  rename_i hd
  obtain ⟨n, hcut⟩ : ∃ n, d.cut = some n := by
    cases hk : d.cut with
    | none => rw [hk] at h; cases h
    | some n => exact ⟨n, rfl⟩
  clear h
  obtain ⟨j, hj⟩ : ∃ j : Nat, (j : Int) = min (max n 0) ((b.length : Nat) : Int) := ⟨(min (max n 0) ((b.length : Nat) : Int)).toNat, by omega⟩
  have e1 : dkWrite d b = (⟨d.b ++ b.take j, true, none⟩, 18) := by
    unfold dkWrite
    rw [if_neg (by rw [hd]; decide), hcut]
    have : (min (max n 0) ((b.length : Nat) : Int)).toNat = j := by omega
    simp only [this]
  rw [e1]
  have hjb : j ≤ b.length := by omega
  have htl : (b.take j).length = j := by rw [List.length_take]; omega
  have Ht : ∀ w', Chg F0 w w' → Cells w' al (u8s (b.take j)) := fun w' hc => by rw [u8s, List.map_take]; exact (HS w' hc).take _
  refine c_sdraw2 mixed [(0, some 0), (1, some 0), (2, some 0), (3, some 0), (5, some 0), (6, some 0), (7, some 0), (8, some 0), (9, some 0), (10, some 0), (11, some 0), (4, some 2), (12, none), (13, some 0), (14, some 0), (15, none)] [0, 0, 0, 0, 0, 0, 0, 0, 0, 0, 0, 0, 0, 0, 0, 0] (Sof (mm.pk [0] (by decide))) (Sof (mm.pk [0] (by decide))) (fun _ h => h) (by kernel_rfl) rfl rfl (by kernel_rfl) (fun w4 hc => ?_)
  have mm := mm.frame hc
  refine q01 rfl (fun w => r_mvp rfl) ?_
  refine q01 rfl (fun w => r_mvp rfl) ?_
  refine q01 rfl (fun w => r_nil rfl) ?_
  refine q01 rfl (fun w => r_fa rfl) ?_
  refine q01 rfl (fun w => r_mvs rfl) ?_
  refine q01 rfl (fun w => r_mvi (show _ = Value.int .i64 n by show Value.int .i64 (d.cut.getD 0) = _; rw [hcut]; rfl)) ?_
  refine q01 rfl (fun w => r_max2 rfl rfl) ?_
  refine q01 rfl (fun w => r_mvs rfl) ?_
  refine q01 rfl (fun w => r_len rfl) ?_
  refine q01 rfl (fun w => r_min2 rfl rfl) ?_
  refine q01 rfl (fun w => r_slh rfl (show _ = Value.int .i64 ((j : Nat) : Int) by rw [hj]; rfl) (by omega) (by omega)) ?_
  refine qA1 rfl (fun w m => r_ld rfl (m.b 0 rfl) rfl) (mm.pk [0] (by decide)) ?_
  refine qo rfl (o_ap mm 1 rfl rfl (show _ = Value.slice al j cl from rfl) (src_cells (Ht _ mm.chg) (by rw [u8s_length, htl]; omega) (ones_u8s _) (by decide)) (by omega) (by unfold maxLen; omega) fun a5 c5 w5 mm => ⟨trivial, ?_⟩)
  refine q01 rfl (fun w => r_nil rfl) ?_
  refine q01 rfl (fun w => r_fa rfl) ?_
  refine qs rfl (o_st mm 0 rfl rfl rfl rfl rfl fun w6 mm => ⟨trivial, ?_⟩)
  refine qn ?_
  have hle : (d.b ++ b.take j).length = d.b.length + j := by rw [List.length_append, htl]
  have e3 : [bk q (dkB { d with b := d.b ++ b.take j } a5 c5 qm) 98, own 5 1 a5 (d.b ++ b.take j).length c5 (u8s (d.b ++ b.take j)), keyI keepK qm d.cut] = [bk q [.slice a5 (d.b.length + j) c5, .bool d.down, .map (some qm)] 98, own 5 1 a5 (d.b.length + j) c5 (u8s d.b ++ u8s (b.take j)), keyI keepK qm d.cut] := by unfold dkB; rw [hle, u8s_append]
  have mm := Mem.castL (mm.pk [0, 1, 2] (by decide)) e3.symm
  have mm : Mem w F0 _ [dkI q a5 c5 qm { d with b := d.b ++ b.take j }] := mm.close
  refine c_sreg rfl ?_
  refine s1 (r_mvp rfl) ?_
  refine so (o_c1 rfl (c_dkCrash (mm.h 0 rfl)) ?_)
  rintro _ w7 ⟨rfl, hm⟩
  have mm := mm.lift1 0 rfl hm
  refine wn ?_
  refine c_sreg rfl ?_
  refine s1 (r_asi rfl) ?_
  refine wn ?_
  exact c_ret (ret1 rfl rfl ⟨_, _, rfl, mm⟩)
end
end Go.Proofs.Ytbcpabfemejlgaa
/- frame.Put, kithlaw07.shown: walks. -/
namespace Go.Proofs.Ytbcpabfemejlgaa
open K
set_option maxRecDepth 100000
set_option maxHeartbeats 4000000

theorem nth_clkI (c : Clk) (i : Nat) (h : i < 5) : nth (clkC c) (((i : Nat) : Int).toNat) = some (.int .i64 (c.get i)) := nth_clk c i h
theorem bodyF_len {x : Rec} (ok : FrOk x) : (bodyF x).length ≤ 1000 := by
  have hl44 := evsB_len ok.es
  have hmost := ok.most
  have hcl := clkB_len x.c ok.c 5 (Nat.le_refl _)
  have hu := vput_len10 x.upto.toNat (by have := ok.u1; omega)
  unfold bodyF
  rw [List.length_append]
  have h0 : [UInt8.ofNat x.kind.toNat, UInt8.ofNat x.r.toNat].length = 2 := rfl
  rw [h0]
  split
  · omega
  · split
    · omega
    · rw [List.length_cons]; omega
theorem c_fPut (x : Rec) {a : Option Addr} {cap : Nat} (w : World) (H : Cells w a (evsC x.es)) (hw : ClkW x.c) : Cl Try.prog 28 #[.agg (recV x a cap).toArray] w
    (fun v w' => ∃ a' c', v = .tuple #[.slice a' (frPut x).length c', .int .i64 (if frMay x then 0 else 1)] ∧ Chg No w w' ∧ New w w' (own 5 1 a' (frPut x).length c' (u8s (frPut x)))) := by
  refine f_enter (args := [_]) Try.func28 rfl rfl ?_
  have mm := Mem.nil No w
  refine c_sreg rfl ?_
  refine so (o_bxa mm rfl fun b2 w2 mm => ?_)
  refine s1 (r_ass rfl) ?_
  refine s1 (r_asi rfl) ?_
  refine wn ?_
  refine c_seq ?_
  refine c_sreg rfl ?_
  refine s1 (r_lda rfl (mm.b 0 rfl) rfl) ?_
  refine so (o_c1 rfl (c_frMay x _ (mm.ro H) hw) ?_)
  rintro _ w3 ⟨rfl, hc⟩
  have mm := mm.frame hc
  refine s1 (r_not rfl) ?_
  refine wn ?_
  refine c_cond rfl (fun h => ?_) (fun h => (c_skip (t_n ?_)))
  · have hz : frMay x = false := by simpa using h
    refine c_sreg rfl ?_
    refine s1 (r_ass rfl) ?_
    refine s1 (r_asi rfl) ?_
    refine wn ?_
    have e1 : frPut x = [] := by unfold frPut; rw [hz]; rfl
    rw [e1, hz]
    have mm := mm.nilrow (T := 5) (sz := 1)
    exact c_ret (ret2 rfl rfl rfl ⟨none, 0, rfl, mm.chg, mm.isNew 1 rfl⟩)
  have hz : frMay x = true := by simpa using h
  clear h
  have ok := frMay_ok hz
  have e1 : frPut x = putF x := by unfold frPut; rw [hz]; rfl
  rw [e1, hz]
  have hkin := fHas_in ok.is
  have hbl := bodyF_len ok
  refine c_sreg rfl ?_
  refine s1 (r_fa rfl) ?_
  refine s1 (r_ld rfl (mm.b 0 rfl) rfl) ?_
  refine s1 (r_cv rfl rfl) ?_
  refine s1 (r_fa rfl) ?_
  refine s1 (r_ld rfl (mm.b 0 rfl) rfl) ?_
  refine s1 (r_cv rfl rfl) ?_
  refine so (o_bi2 mm rfl rfl fun a4 c4 w4 mm => ?_)
  refine s1 (r_ass rfl) ?_
  refine wn ?_
  rw [u8_int _ (by omega), u8_int _ ok.r0] at mm
  have mm : Mem w No _ [bk b2 (recV x a cap) 40, own 5 1 a4 [UInt8.ofNat x.kind.toNat, UInt8.ofNat x.r.toNat].length c4 (u8s [UInt8.ofNat x.kind.toNat, UInt8.ofNat x.r.toNat])] := mm
  generalize hp0 : [UInt8.ofNat x.kind.toNat, UInt8.ofNat x.r.toNat] = g0 at *
  have hl0 : g0.length = 2 := by rw [← hp0]; rfl
  refine c_seq ?_
  refine c_sreg rfl ?_
  refine s1 (r_fa rfl) ?_
  refine s1 (r_ld rfl (mm.b 0 rfl) rfl) ?_
  refine so (o_c1 rfl (c_has x.kind _) ?_)
  rintro _ w5 ⟨rfl, hc⟩
  have mm := mm.frame hc
  refine wn ?_
  generalize hB : bodyF x = B at *
  have hB' : g0 ++ (if fHas x.kind = 2 then vput x.upto.toNat else if fHas x.kind = 3 then clkB x.c 5 else UInt8.ofNat x.es.length :: evsB x.es) = B := by rw [← hB, ← hp0]; rfl
  have hu := vput_len10 x.upto.toNat (by have := ok.u1; omega)
  have hfx : ∀ (q : List UInt8) {w' : World} {a' : Option Addr} {n c' : Nat} {cs : List Value}, Mem w No w' [bk b2 (recV x a cap) 40, own 5 1 a' n c' cs] → n = q.length → cs = u8s q → Mem w No w' [bk b2 (recV x a cap) 40, own 5 1 a' q.length c' (u8s q)] := fun q _ _ _ _ _ h h1 h2 => h.castp h1 h2
  refine c_mid0 (fun e w' => ∃ ao co, e 1 = .pointer (some ⟨b2, 0, none⟩) ∧ e 4 = .slice ao B.length co ∧ Mem w No w' [bk b2 (recV x a cap) 40, own 5 1 ao B.length co (u8s B)]) ?_ ?_
  · refine c_block ?_
    refine c_sreg rfl ?_
    refine s1 (r_eq rfl rfl) ?_
    refine s1 (r_asb rfl) ?_
    refine wn ?_
    refine c_cond rfl (fun h => ?_) (fun h => ?_)
    · have h2 : fHas x.kind = 2 := by simpa using h
      rw [if_pos h2] at hB'
      refine c_region rfl ?_
      refine s1 (r_mvs (show _ = Value.slice a4 g0.length c4 by rw [hl0]; rfl)) ?_
      refine s1 (r_fa rfl) ?_
      refine s1 (r_ld rfl (mm.b 0 rfl) rfl) ?_
      refine s1 (r_cv rfl (wu64n ok.u0 (by have := ok.u1; omega))) ?_
      refine so (o_c1 rfl (c_vput x.upto.toNat (by have := ok.u1; omega) _) ?_)
      rintro _ w6 ⟨a6, c6, rfl, hc, hn⟩
      have mm := mm.new hc hn
      refine so (o_ap mm 1 rfl rfl rfl (src_own mm  2 rfl (ones_u8s _)) (by omega) (by unfold maxLen; omega) fun a7 c7 w7 mm => ?_)
      refine s1 (r_ass rfl) ?_
      refine wn (b_n (t_n ?_))
      have hle : B.length = g0.length + (vput x.upto.toNat).length := by rw [← hB', List.length_append]
      have mm := hfx B (mm.pk [0, 1] (by decide)) hle.symm (by rw [← hB', u8s_append])
      refine ⟨_, _, rfl, ?_, mm⟩
      rw [hle]; rfl
    have h2 : ¬ fHas x.kind = 2 := by simpa using h
    clear h
    rw [if_neg h2] at hB'
    refine c_sreg rfl ?_
    refine s1 (r_eq rfl rfl) ?_
    refine s1 (r_asb rfl) ?_
    refine wn ?_
    refine c_cond rfl (fun h => ?_) (fun h => ?_)
    · have h3 : fHas x.kind = 3 := by simpa using h
      clear h
      rw [if_pos h3] at hB'
      refine c_sreg rfl ?_
      refine s1 (r_fa rfl) ?_
      refine s1 (r_lda rfl (mm.b 0 rfl) rfl) ?_
      refine s1 (r_mvi rfl) ?_
      refine wn ?_
      refine c_block ?_
      refine c_loop (fun k e w' => ∃ i ao co, k + i = 5 ∧ e 1 = .pointer (some ⟨b2, 0, none⟩) ∧ e 4 = .slice ao (g0 ++ clkB x.c i).length co ∧ Mem w No w' [bk b2 (recV x a cap) 40, own 5 1 ao (g0 ++ clkB x.c i).length co (u8s (g0 ++ clkB x.c i))] ∧ e 35 = .agg (clkC x.c).toArray ∧ e 36 = .int .i64 (i : Nat)) 5 ?_ ?_
      · have e0 : clkB x.c 0 = [] := rfl
        refine ⟨0, a4, c4, rfl, rfl, ?_, ?_, rfl, rfl⟩
        · rw [e0, List.append_nil, hl0]; rfl
        · rw [e0, List.append_nil]; exact mm
      clear mm
      rintro k e w2 ⟨i, ao, co, hki, h1, h4, mm, h35, h36⟩
      refine c_sreg rfl ?_
      refine s1 (r_lt h36 rfl) ?_
      refine wn ?_
      refine c_seq ?_
      refine c_cond rfl (fun h => (c_skip (t_n ?_))) (fun h => (c_exit (t_x (t_x (b_x (b_n (t_n ?_)))))))
      · have hi : i < 5 := by simp at h; omega
        clear h
        have hci := ok.c i hi
        have hcl2 := clkB_len x.c ok.c i (by omega)
        have hv10 := vput_len10 (x.c.get i).toNat (by omega)
        have hle0 : (g0 ++ clkB x.c i).length ≤ 62 := by rw [List.length_append]; omega
        refine c_seq ?_
        refine c_block ?_
        refine c_sreg rfl ?_
        refine s1 (r_ixv h35 h36 (by omega) (by omega) (nth_clkI x.c i hi)) ?_
        refine s1 (r_asi rfl) ?_
        refine wn ?_
        refine c_region rfl ?_
        refine s1 (r_mvs h4) ?_
        refine s1 (r_mvi rfl) ?_
        refine s1 (r_cv rfl (wu64n hci.1 (by omega))) ?_
        refine so (o_c1 rfl (c_vput (x.c.get i).toNat (by omega) _) ?_)
        rintro _ w8 ⟨a8, c8, rfl, hc, hn⟩
        have mm := mm.new hc hn
        refine so (o_ap mm 1 rfl rfl rfl (src_own mm  2 rfl (ones_u8s _)) (by omega) (by unfold maxLen; omega) fun a9 c9 w9 mm => ?_)
        refine s1 (r_ass rfl) ?_
        refine wn (b_n (t_n ?_))
        have mm := hfx (g0 ++ clkB x.c (i + 1)) (mm.pk [0, 1] (by decide)) (by rw [clkB_succ, len3]) (by rw [clkB_succ, u8s3])
        refine c_region rfl ?_
        refine s1 (r_add h36 rfl (wi (by omega) (by omega))) ?_
        refine s1 (r_mvi rfl) ?_
        refine wn (t_n ?_)
        refine ⟨k - 1, by omega, i + 1, _, _, by omega, h1, ?_, mm, h35, rfl⟩
        rw [clkB_succ, len3]; rfl
      · have hi : i = 5 := by simp at h; omega
        subst hi
        rw [hB'] at mm h4
        exact ⟨_, _, h1, h4, mm⟩
    have h3 : ¬ fHas x.kind = 3 := by simpa using h
    clear h
    rw [if_neg h3] at hB'
    have h1' : fHas x.kind = 1 := by
      rcases fHas_123 x.kind with h | h | h | h
      · exact absurd h ok.is
      · exact h
      · exact absurd h h2
      · exact absurd h h3
    have hmost := ok.most
    have hl44 := evsB_len ok.es
    refine c_sreg rfl ?_
    refine s1 (r_eq rfl rfl) ?_
    refine s1 (r_asb rfl) ?_
    refine wn ?_
    refine c_cond rfl (fun h => ?_) (fun h => (c_skip (b_n (t_n ?_))))
    · clear h
      refine c_sreg rfl ?_
      refine s1 (r_mvs (show _ = Value.slice a4 g0.length c4 by rw [hl0]; rfl)) ?_
      refine s1 (r_fa rfl) ?_
      refine s1 (r_ld rfl (mm.b 0 rfl) rfl) ?_
      refine s1 (r_len rfl) ?_
      refine s1 (r_cv rfl rfl) ?_
      refine so (o_bi1 mm rfl fun a10 c10 w10 mm => ?_)
      refine so (o_ap mm 1 rfl rfl rfl (src_own mm 2 rfl rfl) (by omega) (by unfold maxLen; omega) fun a11 c11 w11 mm => ?_)
      refine s1 (r_ass rfl) ?_
      refine wn ?_
      rw [u8_any] at mm
      have hle : (g0 ++ [UInt8.ofNat x.es.length]).length = g0.length + 1 := by rw [List.length_append]; rfl
      have mm := hfx (g0 ++ [UInt8.ofNat x.es.length]) (mm.pk [0, 1] (by decide)) hle.symm (by rw [u8s_append]; rfl)
      have hq' : g0 ++ [UInt8.ofNat x.es.length] ++ evsB x.es = B := by rw [← hB', List.append_assoc]; rfl
      generalize g0 ++ [UInt8.ofNat x.es.length] = q at *
      refine c_sreg rfl ?_
      refine s1 (r_fa rfl) ?_
      refine s1 (r_ld rfl (mm.b 0 rfl) rfl) ?_
      refine s1 (r_len rfl) ?_
      refine s1 (r_mvi rfl) ?_
      refine wn ?_
      refine c_block ?_
      refine c_loop (fun k e w' => ∃ i ao co, k + i = x.es.length ∧ e 1 = .pointer (some ⟨b2, 0, none⟩) ∧ e 4 = .slice ao (q ++ evsB (x.es.take i)).length co ∧ Mem w No w' [bk b2 (recV x a cap) 40, own 5 1 ao (q ++ evsB (x.es.take i)).length co (u8s (q ++ evsB (x.es.take i)))] ∧ e 55 = .slice a x.es.length cap ∧ e 56 = .int .i64 (x.es.length : Nat) ∧ e 57 = .int .i64 (i : Nat)) x.es.length ?_ ?_
      · have e0 : evsB (x.es.take 0) = [] := rfl
        refine ⟨0, a11, c11, rfl, rfl, ?_, ?_, rfl, rfl, rfl⟩
        · rw [e0, List.append_nil, hle]; rfl
        · rw [e0, List.append_nil]; exact mm
      clear mm
      rintro k e w2 ⟨i, ao, co, hki, h1, h4, mm, h55, h56, h57⟩
      refine c_sreg rfl ?_
      refine s1 (r_lt h57 h56) ?_
      refine wn ?_
      refine c_seq ?_
      refine c_cond rfl (fun h => (c_skip (t_n ?_))) (fun h => (c_exit (t_x (t_x (b_x (b_n (t_n ?_)))))))
      · have hi : i < x.es.length := by simp at h; omega
        clear h
        have hyz := ok.es x.es[i] (List.getElem_mem hi)
        have hyl := putE_le x.es[i] (evMay_ok hyz)
        have hel := evsB_len (l := x.es.take i) (fun y hy => ok.es y (List.mem_of_mem_take hy))
        rw [List.length_take] at hel
        have hel2 : (q ++ evsB (x.es.take i)).length ≤ 190000 := by rw [List.length_append]; omega
        refine c_seq ?_
        refine c_block ?_
        refine c_sreg rfl ?_
        refine s1 (r_ix h55 h57 (by omega) (by omega) (evs_some H hi)) ?_
        refine s1 (r_ldce rfl (mm.ro H) (seg_evs x.es i hi) (evs_le x.es i hi) (by decide)) ?_
        refine so (o_al mm fun b12 w12 mm => ?_)
        refine ss (o_sta mm 2 rfl rfl rfl rfl rfl (Nat.le_of_ble_eq_true rfl) fun w13 mm => ?_)
        refine wn ?_
        refine c_sreg rfl ?_
        refine s1 (r_lda rfl (mm.b 2 rfl) rfl) ?_
        refine so (o_c1 rfl (c_ePut0 x.es[i] hyz _ rfl _) ?_)
        rintro _ w14 ⟨a14, c14, rfl, hc, hn⟩
        have mm := mm.new hc hn
        refine s1 (r_mvu rfl) ?_
        refine s1 (r_exts rfl rfl) ?_
        refine s1 (r_exti rfl rfl) ?_
        refine s1 (r_ass rfl) ?_
        refine s1 (r_asi rfl) ?_
        refine wn ?_
        refine c_region rfl ?_
        refine s1 (r_mvs h4) ?_
        refine s1 (r_mvs rfl) ?_
        refine so (o_ap mm 1 rfl rfl rfl (src_own mm 3 rfl (ones_u8s _)) (by omega) (by unfold maxLen; omega) fun a15 c15 w15 mm => ?_)
        refine s1 (r_ass rfl) ?_
        refine wn (b_n (t_n ?_))
        have mm := hfx (q ++ evsB (x.es.take (i + 1))) (mm.pk [0, 1] (by decide)) (by rw [evsB_succ _ _ hi, len3]) (by rw [evsB_succ _ _ hi, u8s3])
        refine c_region rfl ?_
        refine s1 (r_add h57 rfl (wi (by omega) (by omega))) ?_
        refine s1 (r_mvi rfl) ?_
        refine wn (t_n ?_)
        refine ⟨k - 1, by omega, i + 1, _, _, by omega, h1, ?_, mm, h55, h56, rfl⟩
        rw [evsB_succ _ _ hi, len3]; rfl
      · have hi : i = x.es.length := by simp at h; omega
        subst hi
        rw [List.take_length, hq'] at mm h4
        exact ⟨_, _, h1, h4, mm⟩
    · exfalso
      rw [h1'] at h
      cases h
  clear mm hc
  rintro e w1 ⟨ao, co, h1, h4, mm⟩
  have hv := vput_len10 B.length (by omega)
  have hput : putF x = sealL (vput B.length ++ B) := by unfold putF; rw [hB]
  have hls := sealL_length (vput B.length ++ B)
  rw [List.length_append] at hls
  refine c_sreg rfl ?_
  refine s1 (r_mvs h4) ?_
  refine s1 (r_len rfl) ?_
  refine s1 (r_cv rfl (wu64n (by omega) (by omega))) ?_
  refine so (o_c1 rfl (c_vput B.length (by omega) _) ?_)
  rintro _ w16 ⟨a16, c16, rfl, hc, hn⟩
  have mm := mm.new hc hn
  refine s1 (r_mvs h4) ?_
  refine so (o_ap mm  2 rfl rfl rfl (src_own mm 1 rfl (ones_u8s _)) (by omega) (by unfold maxLen; omega) fun a17 c17 w17 mm => ?_)
  refine so (o_c1 rfl (c_seal (vput B.length ++ B) (by rw [List.length_append]; omega) _ _ ⟨_, _, by rw [List.length_append]; rfl, by rw [List.length_append]; exact own_le (mm.o 2 rfl), by rw [u8s_append]; exact mm.c 2 rfl⟩) ?_)
  rintro _ w18 ⟨a18, c18, rfl, hc, hn⟩
  have mm := mm.new hc hn
  refine s1 (r_ass rfl) ?_
  refine s1 (r_asi rfl) ?_
  refine wn ?_
  rw [hput]
  exact c_ret (ret2 rfl rfl rfl ⟨_, _, rfl, mm.chg, mm.isNew 3 rfl⟩)

theorem frPut_shown : frPut ⟨2, 2, 300, clk0, []⟩ = sealL [4, 2, 2, 172, 2] := by
  have h2 : vput 2 = [2] := by rw [vput]; rfl
  have h300 : vput 300 = [172, 2] := by rw [vput, if_neg (by decide)]; show _ :: vput 2 = _; rw [h2]; rfl
  have h4 : vput 4 = [4] := by rw [vput]; rfl
  have hb : bodyF ⟨2, 2, 300, clk0, []⟩ = [2, 2, 172, 2] := by
    show [UInt8.ofNat 2, UInt8.ofNat 2] ++ vput 300 = _
    rw [h300]; rfl
  show putF ⟨2, 2, 300, clk0, []⟩ = _
  unfold putF
  rw [hb]
  show sealL (vput 4 ++ _) = _
  rw [h4]; rfl
end Go.Proofs.Ytbcpabfemejlgaa
/- Frames read: plain. -/
namespace Go.Proofs.Ytbcpabfemejlgaa
open K
def numT (b : List UInt8) : Nat × List UInt8 × Bool := (min (vtake b).1 1048577, b.drop (vtake b).2.1, decide ((vtake b).2.2 = 0))
def clkTT (b : List UInt8) : Nat → Clk × List UInt8 × Bool
  | 0 => (clk0, b, true)
  | i + 1 => ((clkTT b i).1.set i (numT (clkTT b i).2.1).1, (numT (clkTT b i).2.1).2.1, (clkTT b i).2.2 && (numT (clkTT b i).2.1).2.2)
def evT1 (q : List Ev × List UInt8) : Option (List Ev × List UInt8) := if (takeE q.2).2.2 = 0 then some (q.1 ++ [(takeE q.2).1], q.2.drop (takeE q.2).2.1.toNat) else none
def evT (b : List UInt8) : Nat → Option (List Ev × List UInt8)
  | 0 => some ([], b)
  | i + 1 => (evT b i).bind evT1
def bodyS (b : List UInt8) : Option (Rec × List UInt8 × Bool) :=
  if b.length < 3 then none else
  let k : Int := (b.getD 0 0).toNat
  let r : Int := (b.getD 1 0).toNat
  let s := b.drop 2
  if fHas k = 2 then some (⟨k, r, (numT s).1, clk0, []⟩, (numT s).2.1, (numT s).2.2)
  else if fHas k = 3 then some (⟨k, r, 0, (clkTT s 5).1, []⟩, (clkTT s 5).2.1, (clkTT s 5).2.2)
  else if fHas k = 1 then (evT (s.drop 1) (s.getD 0 0).toNat).map fun q => (⟨k, r, 0, clk0, q.1⟩, q.2, true)
  else some (⟨k, r, 0, clk0, []⟩, s, true)
def bodyQ (q : Rec × List UInt8 × Bool) : Option Rec := if q.2.2 && decide (q.2.1.length = 0) && frMay q.1 then some q.1 else none
def bodyT (b : List UInt8) : Option Rec := (bodyS b).bind bodyQ
def takeF (b : List UInt8) : Rec × Int :=
  if 2048 < b.length then (rec0, 5) else
  match openL b with
  | none => (rec0, 4)
  | some t =>
    if (vtake t).2.2 ≠ 0 ∨ (vtake t).1 ≠ t.length - (vtake t).2.1 then (rec0, 3) else
    match bodyT (t.drop (vtake t).2.1) with
    | none => (rec0, 3)
    | some f => (f, 0)

theorem vtake_split {b : List UInt8} (h : (vtake b).2.2 = 0) : b = vput (vtake b).1 ++ b.drop (vtake b).2.1 ∧ (vtake b).2.1 = (vput (vtake b).1).length ∧ (vtake b).2.1 ≤ b.length := by
  have e : vtake b = ((vtake b).1, (vtake b).2.1, 0) := by rw [← h]
  obtain ⟨h1, h2, h3, _⟩ := vtake_ok e
  refine ⟨?_, h2, h3⟩
  rw [← h1, List.take_append_drop]
theorem numT_ok {b : List UInt8} (h : (numT b).2.2 = true) (hn : (numT b).1 ≤ 1048576) : b = vput (numT b).1 ++ (numT b).2.1 := by
  have h0 : (vtake b).2.2 = 0 := by simpa [numT] using h
  have hm : (numT b).1 = (vtake b).1 := by unfold numT at *; simp only at *; omega
  rw [hm]
  exact (vtake_split h0).1
theorem numT_put (n : Nat) (hn : n ≤ 1048576) (s : List UInt8) : numT (vput n ++ s) = (n, s, true) := by
  unfold numT
  rw [vtake_put n (Nat.le_trans (vput_len 3 n (by omega)) (by decide)) s]
  simp only [List.drop_left]
  rw [Nat.min_eq_left (by omega)]; rfl
theorem clkTT_ok {b : List UInt8} (C : Clk) (hC : ∀ j, j < 5 → C.get j ≤ 1048576) : ∀ i, i ≤ 5 → (clkTT b i).2.2 = true → (∀ j, j < i → C.get j = (clkTT b i).1.get j) → b = clkB C i ++ (clkTT b i).2.1
  | 0, _, _, _ => rfl
  | i + 1, hi, h, hc => by
    rw [clkTT] at h hc ⊢
    simp only [Bool.and_eq_true] at h hc ⊢
    have hci : C.get i = (numT (clkTT b i).2.1).1 := by rw [hc i (by omega), Clk.get_set _ _ _ (by omega) (by omega), if_pos rfl]
    have h1 := clkTT_ok C hC i (by omega) h.1 fun j hj => by
      rw [hc j (by omega), Clk.get_set _ _ _ (by omega) (by omega), if_neg (by omega)]
    have h2 := numT_ok h.2 (by have := hC i (by omega); omega)
    conv => lhs; rw [h1]
    rw [clkB_succ, hci, List.append_assoc]
    congr 1
theorem clkTT_put (C : Clk) (hC : ∀ j, j < 5 → 0 ≤ C.get j ∧ C.get j ≤ 1048576) : ∀ i, i ≤ 5 → ∀ s, ∃ c, clkTT (clkB C i ++ s) i = (c, s, true) ∧ ∀ j, j < i → c.get j = C.get j
  | 0, _, s => ⟨clk0, rfl, fun j hj => absurd hj (by omega)⟩
  | i + 1, hi, s => by
    obtain ⟨c, h1, h2⟩ := clkTT_put C hC i (by omega) (vput (C.get i).toNat ++ s)
    have hci := hC i (by omega)
    refine ⟨c.set i (C.get i), ?_, fun j hj => ?_⟩
    · rw [clkTT, clkB_succ, List.append_assoc, h1]
      simp only
      rw [numT_put _ (by omega)]
      simp only [Bool.and_self]
      have : (((C.get i).toNat : Nat) : Int) = C.get i := by omega
      rw [this]
    · rw [Clk.get_set _ _ _ (by omega) (by omega)]
      by_cases hij : i = j
      · rw [if_pos hij, hij]
      · rw [if_neg hij]; exact h2 j (by omega)
theorem evT_ok {b : List UInt8} : ∀ (i : Nat) {l : List Ev} {s : List UInt8}, evT b i = some (l, s) → l.length = i ∧ b = evsB l ++ s
  | 0, l, s, h => by
    rw [evT] at h
    cases h
    exact ⟨rfl, rfl⟩
  | i + 1, l, s, h => by
    rw [evT] at h
    cases hq : evT b i with
    | none => rw [hq] at h; cases h
    | some q =>
      rw [hq] at h
      obtain ⟨l', s'⟩ := q
      obtain ⟨h1, h2⟩ := evT_ok i hq
      have h : evT1 (l', s') = some (l, s) := h
      unfold evT1 at h
      simp only at h
      split at h
      · rename_i h0
        rcases takeE_any s' with ⟨_, _, h5, _, h7⟩ | ⟨h5, _⟩
        · cases h
          refine ⟨by rw [List.length_append, h1]; rfl, ?_⟩
          rw [h5]
          have e : (((putE (takeE s').1).length : Nat) : Int).toNat = (putE (takeE s').1).length := by omega
          rw [e, h2]
          show _ = (l' ++ [(takeE s').1]).flatMap putE ++ _
          rw [List.flatMap_append, List.append_assoc]
          congr 1
          show s' = ([(takeE s').1].flatMap putE) ++ _
          have e2 : [(takeE s').1].flatMap putE = putE (takeE s').1 := by simp
          rw [e2]
          conv => lhs; rw [← List.take_append_drop (putE (takeE s').1).length s', h7]
        · exact absurd h0 h5
      · cases h
theorem evT_put (l : List Ev) (hl : ∀ y ∈ l, evMay y = 0) : ∀ i, i ≤ l.length → ∀ s, evT (evsB (l.take i) ++ s) i = some (l.take i, s)
  | 0, _, s => rfl
  | i + 1, hi, s => by
    rw [evT, evsB_succ l i (by omega), List.append_assoc, evT_put l hl i (by omega)]
    show evT1 (l.take i, putE l[i] ++ s) = _
    have hy := evMay_ok (hl l[i] (List.getElem_mem _))
    unfold evT1
    simp only
    rw [takeE_put _ hy]
    simp only [if_true]
    rw [List.take_succ_eq_append_getElem (by omega : i < l.length)]
    have : (((putE l[i]).length : Nat) : Int).toNat = (putE l[i]).length := by omega
    rw [this, List.drop_left]
theorem get2 {b : List UInt8} (h : 3 ≤ b.length) : b = b.getD 0 0 :: b.getD 1 0 :: b.getD 2 0 :: b.drop 3 := by
  match b, h with
  | x :: y :: z :: l, _ => rfl
theorem bodyT_ok {b : List UInt8} {f : Rec} (h : bodyT b = some f) : frMay f = true ∧ bodyF f = b := by
  unfold bodyT at h
  cases hq : bodyS b with
  | none => rw [hq] at h; cases h
  | some q =>
    rw [hq] at h
    have h : bodyQ q = some f := h
    unfold bodyQ at h
    split at h
    · rename_i hc
      simp only [Bool.and_eq_true, decide_eq_true_eq] at hc
      obtain ⟨⟨hok, hnil⟩, hmay⟩ := hc
      have hnil := List.eq_nil_of_length_eq_zero hnil
      cases h
      refine ⟨hmay, ?_⟩
      have ok := frMay_ok hmay
      unfold bodyS at hq
      split at hq
      · cases hq
      rename_i hlen
      have hb := get2 (Nat.le_of_not_lt hlen)
      have hd2 : b.drop 2 = b.getD 2 0 :: b.drop 3 := by rw [hb]; rfl
      have key : ∀ q1 : Rec, q1.kind = ((b.getD 0 0).toNat : Int) → q1.r = ((b.getD 1 0).toNat : Int) → (if fHas q1.kind = 2 then vput q1.upto.toNat else if fHas q1.kind = 3 then clkB q1.c 5 else UInt8.ofNat q1.es.length :: evsB q1.es) = b.drop 2 → bodyF q1 = b := by
        intro q1 e1 e2 e3
        unfold bodyF
        rw [e3, ofNat_of e1, ofNat_of e2, hd2]
        exact hb.symm
      simp only at hq
      generalize hs : b.drop 2 = s at *
      split at hq
      · rename_i h2
        cases hq
        refine key _ rfl rfl ?_
        rw [if_pos h2]
        have hu := ok.u1
        have hu : (((numT s).1 : Nat) : Int) ≤ 1048576 := hu
        have h3 := numT_ok hok (by omega)
        have hnil : (numT s).2.1 = [] := hnil
        rw [hnil, List.append_nil] at h3
        exact h3.symm
      · rename_i h2
        split at hq
        · rename_i h3
          have h4 := fun C hC => clkTT_ok (b := s) C hC 5 (Nat.le_refl _)
          generalize clkTT s 5 = t at h4 hq
          obtain ⟨tc, tl, tb⟩ := t
          cases hq
          refine key _ rfl rfl ?_
          rw [if_neg h2, if_pos h3]
          have h4 := h4 tc (fun j hj => (ok.c j hj).2) hok fun _ _ => rfl
          have hnil : tl = [] := hnil
          rw [hnil, List.append_nil] at h4
          exact h4.symm
        · rename_i h3
          split at hq
          · rename_i h1
            cases hv : evT (s.drop 1) (s.getD 0 0).toNat with
            | none => rw [hv] at hq; cases hq
            | some p =>
              rw [hv] at hq
              cases hq
              obtain ⟨l, t⟩ := p
              obtain ⟨h4, h5⟩ := evT_ok _ hv
              refine key _ rfl rfl ?_
              rw [if_neg h2, if_neg h3]
              have hnil : t = [] := hnil
              show UInt8.ofNat l.length :: evsB l = s
              rw [hnil, List.append_nil] at h5
              rw [← h5, h4, hd2]
              simp
          · rename_i h1
            cases hq
            exfalso
            rcases fHas_123 ((b.getD 0 0).toNat : Int) with h | h | h | h
            · exact ok.is h
            · exact h1 h
            · exact h2 h
            · exact h3 h
    · cases h
theorem bodyF_cons (x : Rec) : bodyF x = UInt8.ofNat x.kind.toNat :: UInt8.ofNat x.r.toNat :: (if fHas x.kind = 2 then vput x.upto.toNat else if fHas x.kind = 3 then clkB x.c 5 else UInt8.ofNat x.es.length :: evsB x.es) := rfl
theorem bodyF_len3 (x : Rec) : 3 ≤ (bodyF x).length := by
  rw [bodyF_cons, List.length_cons, List.length_cons]
  have : 0 < (if fHas x.kind = 2 then vput x.upto.toNat else if fHas x.kind = 3 then clkB x.c 5 else UInt8.ofNat x.es.length :: evsB x.es).length := by
    split
    · exact vput_pos _
    · split
      · rw [clkB_succ, List.length_append]; have := vput_pos (x.c.get 4).toNat; omega
      · simp
  omega
theorem byteN (n : Int) (h0 : 0 ≤ n) (h1 : n ≤ 255) : (((UInt8.ofNat n.toNat).toNat : Nat) : Int) = n := by
  have h : (UInt8.ofNat n.toNat).toNat = n.toNat := by rw [UInt8.toNat_ofNat']; omega
  rw [h]; omega
theorem bodyT_of {x : Rec} (hm : frMay x = true) : bodyT (bodyF x) = some x := by
  have ok := frMay_ok hm
  have hk := fHas_in ok.is
  have h3 := bodyF_len3 x
  have hq : bodyS (bodyF x) = some (x, [], true) := by
    unfold bodyS
    rw [if_neg (by omega)]
    have e0 : (bodyF x).getD 0 0 = UInt8.ofNat x.kind.toNat := rfl
    have e1 : (bodyF x).getD 1 0 = UInt8.ofNat x.r.toNat := rfl
    have e2 : (bodyF x).drop 2 = (if fHas x.kind = 2 then vput x.upto.toNat else if fHas x.kind = 3 then clkB x.c 5 else UInt8.ofNat x.es.length :: evsB x.es) := rfl
    rw [e0, e1, e2, byteN _ (by omega) (by omega), byteN _ ok.r0 (by have := ok.r5; omega)]
    simp only
    by_cases h2 : fHas x.kind = 2
    · rw [if_pos h2, if_pos h2]
      have hes : x.es = [] := ok.h1.resolve_left (by rw [h2]; decide)
      have hcc : x.c = clk0 := ok.h3.resolve_left (by rw [h2]; decide)
      have hn := numT_put x.upto.toNat (by have := ok.u1; omega) []
      rw [List.append_nil] at hn
      rw [hn]
      simp only
      have hu : ((x.upto.toNat : Nat) : Int) = x.upto := by have := ok.u0; omega
      rw [hu, ← hes, ← hcc]
    · rw [if_neg h2, if_neg h2]
      have hup : x.upto = 0 := ok.h2.resolve_left h2
      by_cases h3 : fHas x.kind = 3
      · rw [if_pos h3, if_pos h3]
        have hes : x.es = [] := ok.h1.resolve_left (by rw [h3]; decide)
        obtain ⟨c, h4, h5⟩ := clkTT_put x.c ok.c 5 (Nat.le_refl _) []
        rw [List.append_nil] at h4
        have hc : c = x.c := Clk.ext' fun j hj => h5 j hj
        rw [h4, hc]
        simp only
        rw [← hup, ← hes]
      · rw [if_neg h3, if_neg h3]
        have h1 : fHas x.kind = 1 := by
          rcases fHas_123 x.kind with h | h | h | h
          · exact absurd h ok.is
          · exact h
          · exact absurd h h2
          · exact absurd h h3
        have hcc : x.c = clk0 := ok.h3.resolve_left h3
        rw [if_pos h1]
        have h6 := evT_put x.es ok.es x.es.length (Nat.le_refl _) []
        rw [List.take_length, List.append_nil] at h6
        have hmost := ok.most
        have e5 : (UInt8.ofNat x.es.length).toNat = x.es.length := by rw [UInt8.toNat_ofNat']; omega
        have e6 : ((UInt8.ofNat x.es.length :: evsB x.es).getD 0 0).toNat = x.es.length := e5
        have e7 : (UInt8.ofNat x.es.length :: evsB x.es).drop 1 = evsB x.es := rfl
        rw [e6, e7, h6]
        simp only [Option.map_some]
        rw [← hup, ← hcc]
  unfold bodyT
  rw [hq]
  show bodyQ (x, [], true) = some x
  unfold bodyQ
  rw [hm]; rfl
theorem putF_len {x : Rec} (ok : FrOk x) : (putF x).length ≤ 1100 := by
  have h := bodyF_len ok
  have hv := vput_len10 (bodyF x).length (by omega)
  unfold putF
  rw [sealL_length, List.length_append]; omega
theorem takeF_put {x : Rec} (hm : frMay x = true) : takeF (putF x) = (x, 0) := by
  have ok := frMay_ok hm
  have hl := putF_len ok
  have h := bodyF_len ok
  unfold takeF
  rw [if_neg (by omega)]
  unfold putF
  rw [openL_seal]
  simp only
  rw [vtake_put _ (Nat.le_trans (vput_len 3 _ (by omega)) (by decide))]
  simp only [List.length_append, List.drop_left]
  rw [if_neg (by omega), bodyT_of hm]
theorem takeF_ok {b : List UInt8} (h : (takeF b).2 = 0) : b.length ≤ 2048 ∧ frMay (takeF b).1 = true ∧ putF (takeF b).1 = b := by
  unfold takeF at h ⊢
  split at h
  · cases h
  rename_i hlen
  rw [if_neg hlen]
  cases ho : openL b with
  | none => rw [ho] at h; cases h
  | some t =>
    rw [ho] at h
    simp only at h ⊢
    split at h
    · cases h
    rename_i hv
    rw [if_neg hv]
    have hv0 : (vtake t).2.2 = 0 := Decidable.byContradiction fun hh => hv (.inl hh)
    have hv1 : (vtake t).1 = t.length - (vtake t).2.1 := Decidable.byContradiction fun hh => hv (.inr hh)
    cases hb : bodyT (t.drop (vtake t).2.1) with
    | none => rw [hb] at h; cases h
    | some f =>
      simp only
      obtain ⟨h1, h2⟩ := bodyT_ok hb
      refine ⟨by omega, h1, ?_⟩
      obtain ⟨h3, h4, h5⟩ := vtake_split hv0
      unfold putF
      rw [h2, List.length_drop, ← hv1, ← h3]
      exact (openL_some ho).symm
theorem takeF_code (b : List UInt8) : (takeF b).2 = 0 ∨ (takeF b).1 = rec0 ∧ ((takeF b).2 = 5 ∨ (takeF b).2 = 4 ∨ (takeF b).2 = 3) := by
  unfold takeF
  split
  · exact .inr ⟨rfl, .inl rfl⟩
  · split
    · exact .inr ⟨rfl, .inr (.inl rfl)⟩
    · split
      · exact .inr ⟨rfl, .inr (.inr rfl)⟩
      · split
        · exact .inr ⟨rfl, .inr (.inr rfl)⟩
        · exact .inl rfl
end Go.Proofs.Ytbcpabfemejlgaa
