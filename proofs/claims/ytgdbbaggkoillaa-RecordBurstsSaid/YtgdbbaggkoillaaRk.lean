/- kithlaw18.RecordBursts: the walk. -/
import Derived.Test.YtgdbbaggkoillaaRi
import Derived.Test.YtgdbbaggkoillaaCs
import Derived.Test.YtgdbbaggkoillaaKq
namespace Go.Proofs.Ytgdbbaggkoillaa
open K
set_option maxRecDepth 100000
set_option maxHeartbeats 4000000

theorem bx8i (x : UInt8) (r : Nat) (h : r < 8) : bitv .xor .u8 ((x.toNat : Nat) : Int) ((2 ^ r : Nat) : Int) = (((x ^^^ UInt8.ofNat (2 ^ r)).toNat : Nat) : Int) := by
  have h1 := bx8 x r h
  unfold u8 at h1
  injection h1
theorem app3_inj {α : Type} {p s t q : List α} (h : s.length = t.length) : p ++ (s ++ q) = p ++ (t ++ q) ↔ s = t := by
  constructor
  · intro he
    have h1 := List.append_cancel_left he
    exact (List.append_inj h1 h).1
  · intro he; rw [he]
theorem setN_mid (p s q : List UInt8) (j : Nat) (hj : j < s.length) (x : UInt8) : setN (u8s (p ++ (s ++ q))) (p.length + j) (u8 x) = u8s (p ++ (s.set j x ++ q)) := by
  rw [setN_eq]
  unfold u8s
  rw [← List.map_set, List.set_append_right _ _ (by omega), Nat.add_sub_cancel_left, List.set_append_left _ _ hj]
theorem get_mid (p s q : List UInt8) (j : Nat) (hj : j < s.length) : (p ++ (s ++ q)).getD (p.length + j) 0 = s.getD j 0 := by
  simp only [List.getD]
  rw [List.getElem?_append_right (by omega), Nat.add_sub_cancel_left, List.getElem?_append_left hj]
theorem K.Mem.cast6 {w0 w : World} {F0 : Nat → Prop} {I0 I1 I2 I3 I4 : It} {T : TypeId} {sz n c : Nat} {a : Option Addr} {cs cs' : List Value} (h : Mem w0 F0 w [I0, I1, I2, I3, I4, own T sz a n c cs]) (hc : cs = cs') : Mem w0 F0 w [I0, I1, I2, I3, I4, own T sz a n c cs'] := by subst hc; exact h
theorem K.Mem.cast6n {w0 w : World} {F0 : Nat → Prop} {I0 I1 I2 I3 I4 : It} {T : TypeId} {sz n n' c : Nat} {a : Option Addr} {cs : List Value} (h : Mem w0 F0 w [I0, I1, I2, I3, I4, own T sz a n c cs]) (hc : n = n') : Mem w0 F0 w [I0, I1, I2, I3, I4, own T sz a n' c cs] := by subst hc; exact h
def arr2 (x0 x1 : Nat) : List Value := [.int .u16 (x0 : Nat), .int .u16 (x1 : Nat)]
theorem c_RecordBursts (l : List RecM) (hin : ∀ m ∈ l, RecIn m.1) (x0 x1 : Nat) (hx0 : x0 ≤ 65535) (hx1 : x1 ≤ 65535) (mask : Nat) (hmask : mask < 2 ^ 32) (v : Value) (w : World) (hs : Slr w v l) : Cl Try.prog 16 #[v, .agg (arr2 x0 x1).toArray, .int .u32 (mask : Nat)] w (fun v w' => v = .bool true ∧ Chg No w w') := by
  have hs0 := hs
  obtain ⟨a, c, rfl, H, He⟩ := hs
  refine f_enter (args := [_, _, _]) Try.func16 rfl rfl ?_
  have mm := Mem.nil No w
  have hok := madeR_ok l 10
  have hple := putsR_le (madeR l 10) hok
  have hrl : (madeR l 10).length ≤ 10 := by unfold madeR; rw [List.length_map, List.length_take]; omega
  refine c_sreg rfl ?_
  refine so (o_bxa mm rfl fun b2 w2 mm => ?_)
  refine s1 (r_asb rfl) ?_
  refine wn ?_
  refine c_sreg rfl ?_
  refine so (o_c0 (c_shown18 _) ?_)
  rintro _ w3 ⟨rfl, hc⟩
  have mm := mm.frame hc
  refine s1 (r_asb rfl) ?_
  refine wn ?_
  refine c_sreg rfl ?_
  refine s1 (r_mvs rfl) ?_
  refine so (o_c1 rfl (c_made l hin _ _ (hs0.fr mm.chg)) ?_)
  rintro _ w4 ⟨ms, ao, co, ab, cb, aa, ca, hms, rfl, hmd⟩
  have mm := mm.join hmd
  refine s1 (r_mvu rfl) ?_
  refine s1 (r_exts rfl rfl) ?_
  refine s1 (r_exts rfl rfl) ?_
  refine s1 (r_exts rfl rfl) ?_
  refine s1 (r_ass rfl) ?_
  refine s1 (r_ass rfl) ?_
  refine s1 (r_ass rfl) ?_
  refine wn ?_
  generalize madeR l 10 = rs at *
  have hml : ms.length = rs.length := by have := congrArg List.length hms; rw [List.length_map] at this; exact this
  have hwms := recW_all hms hok
  have hPm := putsR_mono rs
  refine c_seq ?_
  refine c_sreg rfl ?_
  refine s1 (r_mvb rfl) ?_
  refine s1 (r_not rfl) ?_
  refine s1 (r_mvb rfl) ?_
  refine sF rfl rfl (fun h => r_mvs rfl) ?_
  refine sF rfl rfl (fun h => r_len (sel_t h :)) ?_
  refine sF rfl rfl (fun h => r_eq (sel_t h :) rfl) ?_
  refine s1 (r_or rfl rfl) ?_
  refine wn ?_
  refine c_cond rfl (fun h => ?_) (fun h => (c_skip (t_n ?_)))
  · refine c_sreg rfl ?_
    refine s1 (r_mvb rfl) ?_
    refine s1 (r_asb rfl) ?_
    refine wn ?_
    exact c_ret (ret1 rfl rfl ⟨rfl, mm.chg⟩)
  have hne : ms.length ≠ 0 := by intro h0; rw [h0] at h; simp at h
  have hn0 : 0 < rs.length := by omega
  clear h
  generalize hk : x0 % rs.length = k
  have hkl : k < rs.length := by rw [← hk]; exact Nat.mod_lt _ hn0
  have e40 : IntKind.i64.wrap ((x0 : Nat) : Int) = ((x0 : Nat) : Int) := wi (by omega) (by omega)
  refine c_sreg rfl ?_
  refine s1 (r_ixa rfl rfl (by decide) (by decide)) ?_
  refine s1 (r_ld rfl (mm.b 0 rfl) rfl) ?_
  refine s1 (r_cv rfl e40) ?_
  refine s1 (r_mvs rfl) ?_
  refine s1 (r_len rfl) ?_
  refine s1 (r_rem rfl rfl (by omega) (show ((x0 : Nat) : Int).tmod ((ms.length : Nat) : Int) = ((k : Nat) : Int) from by rw [hml, ← hk]; exact nat_tmod _ _)) ?_
  refine s1 (r_asi rfl) ?_
  refine wn ?_
  refine c_sreg rfl ?_
  refine s1 (r_mvs rfl) ?_
  refine s1 (r_len rfl) ?_
  refine s1 (r_asi rfl) ?_
  refine wn ?_
  refine c_seq ?_
  refine c_sreg rfl ?_
  refine s1 (r_mvi rfl) ?_
  refine s1 (r_add rfl rfl (wi (by omega) (by omega))) ?_
  refine s1 (r_mvs rfl) ?_
  refine s1 (r_len rfl) ?_
  refine s1 (r_lt rfl rfl) ?_
  refine wn ?_
  have mm : Mem w No _ (bk b2 (arr2 x0 x1) 67 :: mdL ms rs ao co ab cb aa ca) := mm
  have hg : ∀ j : Nat, j < rs.length → nth (offs rs rs.length) (((j : Nat) : Int).toNat * 1) = some (.int .i64 ((putsR (rs.take j)).length : Nat)) := fun j hj => offs_get rs rs.length j hj
  refine c_mid0 (fun e w' => e 2 = .int .u32 (mask : Nat) ∧ e 4 = .pointer (some ⟨b2, 0, none⟩) ∧ e 8 = .slice ao ms.length co ∧ e 9 = .slice ab (putsR rs).length cb ∧ e 10 = .slice aa rs.length ca ∧ e 11 = .int .i64 (k : Nat) ∧ e 12 = .int .i64 ((putsR (rs.take (k + 1))).length : Nat) ∧ Mem w No w' (bk b2 (arr2 x0 x1) 67 :: mdL ms rs ao co ab cb aa ca)) ?_ ?_
  · refine c_cond rfl (fun h => ?_) (fun h => (c_skip (t_n ?_)))
    · have hi : k + 1 < rs.length := by simp at h; omega
      have e53 : IntKind.i64.wrap (((k : Nat) : Int) + 1) = ((k + 1 : Nat) : Int) := wi (by omega) (by omega)
      refine c_region rfl ?_
      refine s1 (r_mvs rfl) ?_
      refine s1 (r_mvi rfl) ?_
      refine s1 (r_add rfl rfl e53) ?_
      refine s1 (r_ix rfl rfl (by omega) (by omega) ((mm.c 3 rfl).some (hg (k + 1) hi))) ?_
      refine s1 (r_ldc rfl (mm.c 3 rfl) (hg (k + 1) hi)) ?_
      refine s1 (r_asi rfl) ?_
      refine wn (t_n ?_)
      exact ⟨rfl, rfl, rfl, rfl, rfl, rfl, rfl, mm⟩
    · have hi : k + 1 = rs.length := by simp at h; omega
      refine ⟨rfl, rfl, rfl, rfl, rfl, rfl, ?_, mm⟩
      rw [hi, List.take_length]; rfl
  clear mm hmd hc
  rintro e w9 ⟨h2, h4, h8, h9, h10, h11, h12, mm⟩
  have ok := hok rs[k] (List.getElem_mem hkl)
  have h3 := vput_lenR ok
  have hbd := bodyR_len ok
  have hput : putR rs[k] = vput (sealL (bodyR rs[k])).length ++ sealL (bodyR rs[k]) := rfl
  have hts := putsR_take rs k hkl
  have htl := congrArg List.length hts
  rw [List.length_append, hput, List.length_append] at htl
  have hsp : putsR rs = putsR (rs.take k) ++ (putR rs[k] ++ putsR (rs.drop (k + 1))) := by rw [← putsR_drop rs k hkl, ← putsR_append, List.take_append_drop]
  have hspl := congrArg List.length hsp
  rw [List.length_append, hput, List.length_append, List.length_append] at hspl
  generalize hx : rs[k] = x at *
  have hSl := sealL_length (bodyR x)
  generalize hS : sealL (bodyR x) = S at *
  generalize hP : (putsR (rs.take k)).length = P at *
  generalize hP1 : (putsR (rs.take (k + 1))).length = P1 at *
  have hcb := own_le (mm.o 2 rfl)
  have hslk : ∀ w', Cells w' ab (u8s (putsR rs)) → Sl w' (.slice (slA ab cb P 1) (P1 - P) (cb - P)) (vput S.length ++ S) := fun w' Hw => by
    have h9' := Sl.part Hw hcb P P1 (by omega) (by omega)
    have h8' : ((putsR rs).drop P).take (P1 - P) = vput S.length ++ S := by
      rw [hsp, ← hP, List.drop_left, hput, List.take_append_of_le_length (by rw [List.length_append]; omega), List.take_of_length_le (by rw [List.length_append]; omega)]
    rw [h8'] at h9'
    exact h9'
  have hgk := hg k hkl
  rw [hP] at hgk
  refine c_sreg rfl ?_
  refine s1 (r_mvs h9) ?_
  refine s1 (r_mvs h10) ?_
  refine s1 (r_mvi h11) ?_
  refine s1 (r_ix rfl rfl (by omega) (by omega) ((mm.c 3 rfl).some hgk)) ?_
  refine s1 (r_ldc rfl (mm.c 3 rfl) hgk) ?_
  refine s1 (r_mvi h12) ?_
  refine s1 (r_slb rfl rfl rfl (by omega) (by omega) (by omega)) ?_
  refine so (o_c1 rfl (c_vtake0 S.length S (by omega) (by rw [List.length_append]; omega) _ _ (hslk _ (mm.c 2 rfl))) ?_)
  rintro _ w5 ⟨rfl, hc⟩
  have mm := mm.frame hc
  refine s1 (r_mvu rfl) ?_
  refine s1 (r_exti rfl rfl) ?_
  refine s1 (r_exti rfl rfl) ?_
  refine s1 (r_exti rfl rfl) ?_
  refine s1 (r_asi rfl) ?_
  refine s1 (r_asi rfl) ?_
  refine s1 (r_asi rfl) ?_
  refine wn ?_
  have e73 : IntKind.i64.wrap (((P : Nat) : Int) + (((vput S.length).length : Nat) : Int)) = ((P + (vput S.length).length : Nat) : Int) := wi (by omega) (by omega)
  generalize hF : P + (vput S.length).length = F at *
  refine c_sreg rfl ?_
  refine s1 (r_mvs h10) ?_
  refine s1 (r_mvi h11) ?_
  refine s1 (r_ix rfl rfl (by omega) (by omega) ((mm.c 3 rfl).some hgk)) ?_
  refine s1 (r_ldc rfl (mm.c 3 rfl) hgk) ?_
  refine s1 (r_mvi rfl) ?_
  refine s1 (r_add rfl rfl e73) ?_
  refine s1 (r_asi rfl) ?_
  refine wn ?_
  refine c_seq ?_
  refine c_sreg rfl ?_
  refine s1 (r_mvi rfl) ?_
  refine s1 (r_mvi h12) ?_
  refine s1 (r_ge rfl rfl) ?_
  refine wn ?_
  refine c_cond rfl (fun h => ?_) (fun h => (c_skip (t_n ?_)))
  · exfalso; simp at h; omega
  clear h
  have e80 : IntKind.i64.wrap (8 * (((P1 : Nat) : Int) - ((F : Nat) : Int))) = ((8 * S.length : Nat) : Int) := by rw [wi (by omega) (by omega)]; omega
  refine c_sreg rfl ?_
  refine s1 (r_mvi h12) ?_
  refine s1 (r_mvi rfl) ?_
  refine s1 (r_sub rfl rfl (wi (by omega) (by omega))) ?_
  refine s1 (r_mul rfl rfl e80) ?_
  refine s1 (r_asi rfl) ?_
  refine wn ?_
  generalize hbit : x1 % (8 * S.length) = bit
  have hbl : bit < 8 * S.length := by rw [← hbit]; exact Nat.mod_lt _ (by omega)
  have e83 : IntKind.i64.wrap ((x1 : Nat) : Int) = ((x1 : Nat) : Int) := wi (by omega) (by omega)
  refine c_sreg rfl ?_
  refine s1 (r_ixa h4 rfl (by decide) (by decide)) ?_
  refine s1 (r_ld rfl (mm.b 0 rfl) rfl) ?_
  refine s1 (r_cv rfl e83) ?_
  refine s1 (r_mvi rfl) ?_
  refine s1 (r_rem rfl rfl (by omega) (show ((x1 : Nat) : Int).tmod ((8 * S.length : Nat) : Int) = ((bit : Nat) : Int) from by rw [← hbit]; exact nat_tmod _ _)) ?_
  refine s1 (r_asi rfl) ?_
  refine wn ?_
  refine c_sreg rfl ?_
  refine so (o_bs0 mm fun a6 c6 w6 mm => ?_)
  refine s1 (r_mvs h9) ?_
  refine so (o_ap mm 5 rfl rfl rfl (src_own mm 2 rfl (ones_u8s _)) (by omega) (by unfold maxLen; omega) fun a7 c7 w7 mm => ?_)
  refine s1 (r_ass rfl) ?_
  refine wn ?_
  generalize hpre : putsR (rs.take k) ++ vput S.length = pre
  generalize hpost : putsR (rs.drop (k + 1)) = post at *
  have hpl : pre.length = F := by rw [← hpre, List.length_append, hP]; exact hF
  have hbp : putsR rs = pre ++ (S ++ post) := by rw [hsp, hput, ← hpre]; simp
  have hbpl := congrArg List.length hbp
  rw [List.length_append, List.length_append] at hbpl
  have mm : Mem w No w7 (bk b2 (arr2 x0 x1) 67 :: mdL ms rs ao co ab cb aa ca ++ [own 5 1 a7 (putsR rs).length c7 (u8s (pre ++ (S ++ post)))]) := by
    rw [← hbp]
    exact mm.cast6 rfl |>.cast6n (Nat.zero_add _)
  refine c_seq ?_
  refine c_sreg rfl ?_
  refine s1 (r_asi rfl) ?_
  refine wn ?_
  refine c_block ?_
  refine c_loop (fun kk e w' => ∃ (i : Nat) (s : List UInt8), kk + i = 32 ∧ e 2 = .int .u32 (mask : Nat) ∧ e 8 = .slice ao ms.length co ∧ e 9 = .slice ab (putsR rs).length cb ∧ e 10 = .slice aa rs.length ca ∧ e 11 = .int .i64 (k : Nat) ∧ e 16 = .int .i64 (F : Nat) ∧ e 17 = .int .i64 ((8 * S.length : Nat) : Int) ∧ e 18 = .int .i64 (bit : Nat) ∧ e 19 = .slice a7 (putsR rs).length c7 ∧ e 20 = .int .i64 (i : Nat) ∧ Mem w No w' (bk b2 (arr2 x0 x1) 67 :: mdL ms rs ao co ab cb aa ca ++ [own 5 1 a7 (putsR rs).length c7 (u8s (pre ++ (s ++ post)))]) ∧ Turned S mask bit i s ∧ bit + i ≤ 8 * S.length) 32 ?_ ?_
  · exact ⟨0, S, rfl, h2, h8, h9, h10, h11, rfl, rfl, rfl, by show Value.slice _ (0 + (putsR rs).length) _ = _; rw [Nat.zero_add], rfl, mm, turned0 S mask bit, by omega⟩
  clear mm h2 h4 h8 h9 h10 h11 h12
  rintro kk e w9 ⟨i, s, hki, h2, h8, h9, h10, h11, h16, h17, h18, h19, h20, mm, htu, hle⟩
  refine c_seq ?_
  refine c_sreg rfl ?_
  refine s1 (r_mvi h20) ?_
  refine s1 (r_lt rfl rfl) ?_
  refine s1 (r_mvb rfl) ?_
  refine sT rfl rfl (fun h => r_mvi h18) ?_
  refine sT rfl rfl (fun h => r_mvi h20) ?_
  refine sT rfl rfl (fun h => r_add (sel_t h :) (sel_t h :) (wi (by omega) (by omega))) ?_
  refine sT rfl rfl (fun h => r_mvi h17) ?_
  refine sT rfl rfl (fun h => r_lt (sel_t h :) (sel_t h :)) ?_
  refine s1 (r_and rfl rfl) ?_
  refine wn ?_
  refine c_cond rfl (fun h => (c_skip (t_n ?_))) (fun h => (c_exit (t_x (t_x (b_x (t_n ?_))))))
  · have hi : i < 32 ∧ bit + i < 8 * S.length := by simp at h; omega
    clear h
    have e102 := shr32 mask i hi.1
    have hml2 : mask / 2 ^ i < 2 ^ 32 := Nat.lt_of_le_of_lt (Nat.div_le_self _ _) hmask
    have e103 := and1 (mask / 2 ^ i) hml2
    refine c_seq ?_
    refine c_block ?_
    refine c_sreg rfl ?_
    refine s1 (r_mvi h2) ?_
    refine s1 (r_mvi h20) ?_
    refine s1 (r_shr rfl rfl (by omega) e102) ?_
    refine s1 (r_band rfl rfl e103) ?_
    refine s1 (r_eq rfl rfl) ?_
    refine wn ?_
    refine c_mid1 (fun e w' => ∃ s, e 2 = .int .u32 (mask : Nat) ∧ e 8 = .slice ao ms.length co ∧ e 9 = .slice ab (putsR rs).length cb ∧ e 10 = .slice aa rs.length ca ∧ e 11 = .int .i64 (k : Nat) ∧ e 16 = .int .i64 (F : Nat) ∧ e 17 = .int .i64 ((8 * S.length : Nat) : Int) ∧ e 18 = .int .i64 (bit : Nat) ∧ e 19 = .slice a7 (putsR rs).length c7 ∧ e 20 = .int .i64 (i : Nat) ∧ Mem w No w' (bk b2 (arr2 x0 x1) 67 :: mdL ms rs ao co ab cb aa ca ++ [own 5 1 a7 (putsR rs).length c7 (u8s (pre ++ (s ++ post)))]) ∧ Turned S mask bit (i + 1) s) ?_ ?_
    · refine c_cond rfl (fun h => ?_) (fun h => (c_skip (t_n ?_)))
      · have hb : mask.testBit i = true := (div_bit mask i).1 (by generalize mask / 2 ^ i % 2 = z at h; simp at h; omega)
        have hsl := htu.1
        have hq : (bit + i) / 8 < s.length := by omega
        have e109 : IntKind.i64.wrap (((bit : Nat) : Int) + ((i : Nat) : Int)) = ((bit + i : Nat) : Int) := wi (by omega) (by omega)
        have e110 : IntKind.i64.wrap (((bit + i : Nat) : Int).tdiv 8) = (((bit + i) / 8 : Nat) : Int) := by rw [show ((bit + i : Nat) : Int).tdiv 8 = _ from nat_tdiv (bit + i) 8]; exact wi (by omega) (by omega)
        have e111 : IntKind.i64.wrap (((F : Nat) : Int) + (((bit + i) / 8 : Nat) : Int)) = ((F + (bit + i) / 8 : Nat) : Int) := wi (by omega) (by omega)
        have e124 : ((bit + i : Nat) : Int).tmod 8 = (((bit + i) % 8 : Nat) : Int) := nat_tmod (bit + i) 8
        have hr8 : (bit + i) % 8 < 8 := Nat.mod_lt _ (by decide)
        have hgm := get_mid pre s post _ hq
        rw [hpl] at hgm
        have hnn := nth_u8s (pre ++ (s ++ post)) (F + (bit + i) / 8) (by rw [List.length_append, List.length_append]; omega)
        rw [hgm] at hnn
        refine c_draw2 mixed [(0, some 0), (1, some 0), (2, some 0), (3, some 0), (4, some 0), (5, some 0), (6, some 0), (7, some 0), (8, some 0), (9, some 0), (10, some 0), (11, some 0), (12, some 0), (13, some 0), (14, some 0), (16, some 0), (17, some 0), (18, some 0), (19, some 0), (20, some 0), (15, some 2), (21, some 0), (22, some 0), (23, none)] [0, 0, 0, 0, 0, 0, 0, 0, 0, 0, 0, 0, 0, 0, 0, 0, 0, 0, 0, 0, 0, 0, 0, 0] (Sof mm) (Sof mm) (fun _ h => h) (by kernel_rfl) rfl rfl (by kernel_rfl) (fun w8 hc => ?_)
        have mm := mm.frame hc
        refine q01 rfl (fun w => r_mvs h19) ?_
        refine q01 rfl (fun w => r_mvi h16) ?_
        refine q01 rfl (fun w => r_mvi h18) ?_
        refine q01 rfl (fun w => r_mvi h20) ?_
        refine q01 rfl (fun w => r_add rfl rfl e109) ?_
        refine q01 rfl (fun w => r_quo rfl rfl (by decide) e110) ?_
        refine q01 rfl (fun w => r_add rfl rfl e111) ?_
        refine q01 rfl (fun w => r_mvs h19) ?_
        refine q01 rfl (fun w => r_mvi h16) ?_
        refine q01 rfl (fun w => r_mvi h18) ?_
        refine q01 rfl (fun w => r_mvi h20) ?_
        refine q01 rfl (fun w => r_add rfl rfl e109) ?_
        refine q01 rfl (fun w => r_quo rfl rfl (by decide) e110) ?_
        refine q01 rfl (fun w => r_add rfl rfl e111) ?_
        refine q01 rfl (fun w => r_ix rfl rfl (by omega) (by omega) ((mm.c 5 rfl).some hnn)) ?_
        refine q01 rfl (fun w => r_mvi h18) ?_
        refine q01 rfl (fun w => r_mvi h20) ?_
        refine q01 rfl (fun w => r_add rfl rfl e109) ?_
        refine q01 rfl (fun w => r_rem rfl rfl (by decide) e124) ?_
        refine q01 rfl (fun w => r_shl rfl rfl (by omega) (shl8 _ hr8)) ?_
        refine qA1 rfl (fun w m => r_ldc rfl (m.c 5 rfl) hnn) mm ?_
        refine q01 rfl (fun w => r_bxor rfl rfl (bx8i _ _ hr8)) ?_
        refine q01 rfl (fun w => r_ix rfl rfl (by omega) (by omega) ((mm.c 5 rfl).some hnn)) ?_
        refine qs rfl (o_stc mm 5 rfl rfl rfl rfl (by omega) fun w9 mm => ⟨trivial, ?_⟩)
        refine qn (t_n ?_)
        have hset := setN_mid pre s post ((bit + i) / 8) hq (s.getD ((bit + i) / 8) 0 ^^^ UInt8.ofNat (2 ^ ((bit + i) % 8)))
        rw [hpl] at hset
        have hset2 : setN (u8s (pre ++ (s ++ post))) (((F + (bit + i) / 8 : Nat) : Int).toNat * 1) (.int .u8 (((s.getD ((bit + i) / 8) 0 ^^^ UInt8.ofNat (2 ^ ((bit + i) % 8))).toNat : Nat) : Int)) = u8s (pre ++ (flipB s (bit + i) ++ post)) := by rw [Nat.mul_one]; exact hset
        have mm := mm.cast6 hset2
        exact ⟨_, h2, h8, h9, h10, h11, h16, h17, h18, h19, h20, mm, turned_flip htu hb hi.2⟩
      · have hb : mask.testBit i = false := by
          cases hq : mask.testBit i with
          | false => rfl
          | true =>
            rw [(div_bit mask i).2 hq] at h
            cases h
        exact ⟨s, h2, h8, h9, h10, h11, h16, h17, h18, h19, h20, mm, turned_same htu hb⟩
    clear mm htu h2 h8 h9 h10 h11 h16 h17 h18 h19 h20
    rintro e w9 ⟨s, h2, h8, h9, h10, h11, h16, h17, h18, h19, h20, mm, htu⟩
    refine c_region rfl ?_
    refine s1 (r_mvi h20) ?_
    refine s1 (r_add rfl rfl (wi (by omega) (by omega))) ?_
    refine s1 (r_asi rfl) ?_
    refine wn (t_n ?_)
    exact ⟨kk - 1, by omega, i + 1, s, by omega, h2, h8, h9, h10, h11, h16, h17, h18, h19, rfl, mm, htu, by omega⟩
  have hi32 : i ≤ 32 := by omega
  clear h
  have hsl := htu.1
  have hbp2 : pre ++ (s ++ post) = putsR (rs.take k) ++ (vput S.length ++ (s ++ post)) := by rw [← hpre, List.append_assoc]
  have hokt : ∀ y ∈ rs.take k, RecOk y := fun y hy => hok y (List.mem_of_mem_take hy)
  have hlen : (pre ++ (s ++ post)).length ≤ 1000000000 := by rw [List.length_append, List.length_append]; omega
  have hiff := app3_inj (p := pre) (q := post) hsl
  have hsln : ∀ w', Cells w' a7 (u8s (pre ++ (s ++ post))) → (putsR rs).length ≤ c7 → Sl w' (.slice a7 (putsR rs).length c7) (pre ++ (s ++ post)) := fun w' Hw hc' => ⟨a7, c7, by congr 1; rw [List.length_append, List.length_append]; omega, by rw [List.length_append, List.length_append]; omega, Hw⟩
  have hc7 := own_le (mm.o 5 rfl)
  by_cases heq : s = S
  · subst heq
    rw [← hbp] at hsln
    refine c_sreg rfl ?_
    refine s1 (r_mvs h19) ?_
    refine so (o_c1 rfl (c_rAll rs hok [] stop_nil (by rw [List.append_nil]; omega) _ _ (hsln _ (by rw [hbp]; exact mm.c 5 rfl) hc7).nil2) ?_)
    rintro _ w10 ⟨ms2, a2, c2, hms2, rfl, hmd⟩
    have mm := mm.join hmd
    refine s1 (r_mvu rfl) ?_
    refine s1 (r_exts rfl rfl) ?_
    refine s1 (r_exti rfl rfl) ?_
    refine s1 (r_ass rfl) ?_
    refine s1 (r_asi rfl) ?_
    refine wn ?_
    have hml2 : ms2.length = rs.length := by have := congrArg List.length hms2; rw [List.length_map] at this; exact this
    refine c_seq ?_
    refine c_sreg rfl ?_
    refine s1 (r_mvs h19) ?_
    refine s1 (r_b2s rfl (mm.c 5 rfl) (by rw [List.length_append, List.length_append]; omega)) ?_
    refine s1 (r_mvs h9) ?_
    refine s1 (r_b2s rfl (mm.c 2 rfl) rfl) ?_
    refine s1 (r_seq rfl rfl) ?_
    refine wn ?_
    refine c_cond rfl (fun h => ?_) (fun h => (c_skip (t_n ?_)))
    · refine c_sreg rfl ?_
      refine s1 (r_mvs rfl) ?_
      refine s1 (r_len rfl) ?_
      refine s1 (r_mvs h8) ?_
      refine s1 (r_len rfl) ?_
      refine s1 (r_eq rfl rfl) ?_
      refine s1 (r_asb rfl) ?_
      refine wn ?_
      refine c_ret (ret1 rfl rfl ⟨congrArg Value.bool (?_ : _ = true), mm.chg⟩)
      simp
      omega
    · exfalso
      rw [hbp] at h
      simp at h
  · have hno : openL s = none := by rw [← hS] at htu heq; exact turned_open htu (by rw [hS]; exact hle) hi32 heq
    have hstop : StopR (vput S.length ++ (s ++ post)) := by
      have h9 := stop_turned ok s post (by rw [hS]; exact hsl) hno
      rw [hS] at h9
      exact h9
    rw [hbp2] at hsln
    refine c_sreg rfl ?_
    refine s1 (r_mvs h19) ?_
    refine so (o_c1 rfl (c_rAll (rs.take k) hokt (vput S.length ++ (s ++ post)) hstop (by rw [← hbp2]; exact hlen) _ _ (hsln _ (by rw [← hbp2]; exact mm.c 5 rfl) hc7)) ?_)
    rintro _ w11 ⟨ms2, a2, c2, hms2, rfl, hmd⟩
    have mm := mm.join hmd
    refine s1 (r_mvu rfl) ?_
    refine s1 (r_exts rfl rfl) ?_
    refine s1 (r_exti rfl rfl) ?_
    refine s1 (r_ass rfl) ?_
    refine s1 (r_asi rfl) ?_
    refine wn ?_
    refine c_seq ?_
    refine c_sreg rfl ?_
    refine s1 (r_mvs h19) ?_
    refine s1 (r_b2s rfl (mm.c 5 rfl) (by rw [List.length_append, List.length_append]; omega)) ?_
    refine s1 (r_mvs h9) ?_
    refine s1 (r_b2s rfl (mm.c 2 rfl) rfl) ?_
    refine s1 (r_seq rfl rfl) ?_
    refine wn ?_
    refine c_cond rfl (fun h => ?_) (fun h => (c_skip (t_n ?_)))
    · exfalso
      have h9 : pre ++ (s ++ post) = putsR rs := by simpa using h
      rw [hbp] at h9
      exact heq (hiff.1 h9)
    have hco := own_le (mm.o 1 rfl)
    have hmst : (ms.take k).map (·.1) = rs.take k := by rw [List.map_take, hms]
    have hml3 : ms2.length = k := by have := congrArg List.length hms2; rw [List.length_map, List.length_take] at this; omega
    refine c_sreg rfl ?_
    refine s1 (r_mvs rfl) ?_
    refine s1 (r_mvs h8) ?_
    refine s1 (r_mvi h11) ?_
    refine s1 (r_slh rfl rfl (by omega) (by omega)) ?_
    refine so (o_c2 rfl rfl (c_same18 ms2 (ms.take k) (recW_all hms2 hokt) (recW_all hmst hokt) (by omega) _ _ _ (Slr.of mm 6 7 rfl rfl) ((Slr.of mm 1 4 rfl rfl).take k (by omega))) ?_)
    rintro _ w12 ⟨rfl, hc⟩
    have mm := mm.frame hc
    refine s1 (r_mvb rfl) ?_
    refine sT rfl rfl (fun h => r_mvi rfl) ?_
    refine sT rfl rfl (fun h => r_mvs h10) ?_
    refine sT rfl rfl (fun h => r_mvi h11) ?_
    refine sT rfl rfl (fun h => r_ix (sel_t h :) (sel_t h :) (by omega) (by omega) ((mm.c 3 rfl).some hgk)) ?_
    refine sT rfl rfl (fun h => r_ldc (sel_t h :) (mm.c 3 rfl) hgk) ?_
    refine sT rfl rfl (fun h => r_eq (sel_t h :) (sel_t h :)) ?_
    refine s1 (r_and rfl rfl) ?_
    refine s1 (r_asb rfl) ?_
    refine wn ?_
    refine c_ret (ret1 rfl rfl ⟨congrArg Value.bool (?_ : _ = true), mm.chg⟩)
    rw [hms2, hmst, hP]
    simp
end Go.Proofs.Ytgdbbaggkoillaa

