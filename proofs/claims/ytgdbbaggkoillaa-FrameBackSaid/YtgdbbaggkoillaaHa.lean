/- kithlaw07.few, short, kithref07.Same: walks. -/
import Derived.Test.YtgdbbaggkoillaaRs
import Derived.Test.YtgdbbaggkoillaaFu
import Derived.Test.YtgdbbaggkoillaaTt
import Derived.Test.YtgdbbaggkoillaaFd
namespace Go.Proofs.Ytgdbbaggkoillaa
open K
set_option maxRecDepth 100000
set_option maxHeartbeats 4000000

theorem c_short (w0 : World) (b : List UInt8) (v : Value) (w : World) (hs : Sl w0 v b) : Cl Try.prog 33 #[v] w (fun r w' => Sl w0 r (b.take 2100) ∧ Chg No w w') := by
  obtain ⟨a, c, rfl, hac, H⟩ := hs
  have hmin : (min (b.length : Int) 2100) = ((min b.length 2100 : Nat) : Int) := by omega
  refine f_enter (args := [_]) Try.func33 rfl rfl ?_
  have mm := Mem.nil No w
  refine c_sreg rfl ?_
  refine s1 (r_ass rfl) ?_
  refine wn ?_
  refine c_sreg rfl ?_
  refine s1 (r_mvs rfl) ?_
  refine s1 (r_mvs rfl) ?_
  refine s1 (r_len rfl) ?_
  refine s1 (r_min2 rfl rfl) ?_
  refine s1 (r_slh rfl rfl (by omega) (by omega)) ?_
  refine s1 (r_ass rfl) ?_
  refine wn ?_
  refine c_ret (ret1 rfl rfl ⟨⟨a, c, ?_, ?_, H.takeb 2100⟩, mm.chg⟩)
  · show Value.slice a (min (b.length : Int) 2100).toNat c = _
    rw [hmin, List.length_take, Nat.min_comm]; rfl
  · rw [List.length_take]; omega
theorem K.Cells.takee {w : World} {a : Option Addr} {l : List Ev} (h : Cells w a (evsC l)) (n : Nat) : Cells w a (evsC (l.take n)) := by
  rw [← evsC_take]
  intro j v hj
  rw [nth_eq] at hj
  refine h j v ?_
  rw [nth_eq]
  rw [List.getElem?_take] at hj
  split at hj
  · exact hj
  · cases hj
def few07 (x : Rec) : Rec := { x with es := x.es.take 22 }
theorem c_few07 (x : Rec) {a : Option Addr} {cap : Nat} (w : World) (hcap : x.es.length ≤ cap) (hl : x.es.length ≤ 1000000000000000) : Cl Try.prog 31 #[.agg (recV x a cap).toArray] w (fun r w' => r = .agg (recV (few07 x) a cap).toArray ∧ Chg No w w') := by
  have hmin : (min (x.es.length : Int) 22) = ((min x.es.length 22 : Nat) : Int) := by omega
  refine f_enter (args := [_]) Try.func31 rfl rfl ?_
  have mm := Mem.nil No w
  refine c_sreg rfl ?_
  refine so (o_bxa mm rfl fun b2 w2 mm => ?_)
  refine so (o_al mm fun b3 w3 mm => ?_)
  refine wn ?_
  refine c_sreg rfl ?_
  refine s1 (r_fa rfl) ?_
  refine s1 (r_ld rfl (mm.b 0 rfl) rfl) ?_
  refine s1 (r_fa rfl) ?_
  refine s1 (r_ld rfl (mm.b 0 rfl) rfl) ?_
  refine s1 (r_len rfl) ?_
  refine s1 (r_min2 rfl rfl) ?_
  refine s1 (r_slh rfl rfl (by omega) (by omega)) ?_
  refine s1 (r_fa rfl) ?_
  refine ss (o_st mm 0 rfl rfl rfl rfl rfl fun w4 mm => ?_)
  refine wn ?_
  have hle : (min (x.es.length : Int) 22).toNat = (x.es.take 22).length := by rw [hmin, List.length_take, Nat.min_comm]; rfl
  refine c_sreg rfl ?_
  refine s1 (r_lda rfl (mm.b 0 rfl) rfl) ?_
  refine ss (o_sta mm 1 rfl rfl rfl rfl rfl (Nat.le_of_ble_eq_true rfl) fun w5 mm => ?_)
  refine wn ?_
  refine c_ret (retc rfl rfl (mm.b 1 rfl) rfl ⟨?_, mm.chg⟩)
  show Value.agg (recV ⟨x.kind, x.r, x.upto, x.c, []⟩ a cap |>.take 8 |>.append [.slice a (min (x.es.length : Int) 22).toNat cap]).toArray = _
  rw [hle]; rfl
theorem c_same07 (x y : Rec) (hx : RecW x) (hy : RecW y) {a a' : Option Addr} {c c' : Nat} (w : World) (H : Cells w a (evsC x.es)) (H' : Cells w a' (evsC y.es)) :
    Cl Try.prog 37 #[.agg (recV x a c).toArray, .agg (recV y a' c').toArray] w (fun r w' => r = .bool (decide (x = y)) ∧ Chg No w w') := by
  refine f_enter (args := [_, _]) Try.func37 rfl rfl ?_
  have mm := Mem.nil No w
  refine c_sreg rfl ?_
  refine so (o_bxa mm rfl fun b2 w2 mm => ?_)
  refine so (o_bxa mm rfl fun b3 w3 mm => ?_)
  refine s1 (r_asb rfl) ?_
  refine wn ?_
  refine c_sreg rfl ?_
  refine s1 (r_fa rfl) ?_
  refine s1 (r_ld rfl (mm.b 0 rfl) rfl) ?_
  refine s1 (r_fa rfl) ?_
  refine s1 (r_ld rfl (mm.b 1 rfl) rfl) ?_
  refine s1 (r_eq rfl rfl) ?_
  refine s1 (r_mvb rfl) ?_
  refine sT rfl rfl (fun h => r_fa rfl) ?_
  refine sT rfl rfl (fun h => r_ld (sel_t h :) (mm.b 0 rfl) rfl) ?_
  refine sT rfl rfl (fun h => r_fa rfl) ?_
  refine sT rfl rfl (fun h => r_ld (sel_t h :) (mm.b 1 rfl) rfl) ?_
  refine sT rfl rfl (fun h => r_eq (sel_t h :) (sel_t h :)) ?_
  refine s1 (r_and rfl rfl) ?_
  refine s1 (r_mvb rfl) ?_
  refine sT rfl rfl (fun h => r_fa rfl) ?_
  refine sT rfl rfl (fun h => r_ld (sel_t h :) (mm.b 0 rfl) rfl) ?_
  refine sT rfl rfl (fun h => r_fa rfl) ?_
  refine sT rfl rfl (fun h => r_ld (sel_t h :) (mm.b 1 rfl) rfl) ?_
  refine sT rfl rfl (fun h => r_eq (sel_t h :) (sel_t h :)) ?_
  refine s1 (r_and rfl rfl) ?_
  refine s1 (r_mvb rfl) ?_
  refine sT rfl rfl (fun h => r_fa rfl) ?_
  refine sT rfl rfl (fun h => r_lda (sel_t h :) (mm.b 0 rfl) rfl) ?_
  refine sT rfl rfl (fun h => r_fa rfl) ?_
  refine sT rfl rfl (fun h => r_lda (sel_t h :) (mm.b 1 rfl) rfl) ?_
  refine sT rfl rfl (fun h => r_eqa clk_guard (clk_eq _ _ hx.c hy.c) (sel_t h :) (sel_t h :)) ?_
  refine s1 (r_and rfl rfl) ?_
  refine s1 (r_mvb rfl) ?_
  refine sT rfl rfl (fun h => r_fa rfl) ?_
  refine sT rfl rfl (fun h => r_ld (sel_t h :) (mm.b 0 rfl) rfl) ?_
  refine sT rfl rfl (fun h => r_fa rfl) ?_
  refine sT rfl rfl (fun h => r_ld (sel_t h :) (mm.b 1 rfl) rfl) ?_
  refine sTw (I := Sof mm) rfl rfl mm (fun h => o_c2 (sel_t h :) (sel_t h :) (c_same6 x.es y.es hx.es hy.es hx.len _ _ _ ⟨_, _, rfl, mm.ro H⟩ ⟨_, _, rfl, mm.ro H'⟩) (fun _ _ hh => ⟨hh.1, mm.frame hh.2⟩)) (fun w4 mm => ?_)
  refine s1 (r_and rfl rfl) ?_
  refine s1 (r_asb rfl) ?_
  refine wn ?_
  refine c_ret (ret1 rfl rfl ⟨congrArg Value.bool (?_ : _ = decide (x = y)), mm.chg⟩)
  show (decide (x.kind = y.kind) && decide (x.r = y.r) && decide (x.upto = y.upto) && decide (x.c = y.c) && decide (x.es = y.es)) = decide (x = y)
  rw [Bool.eq_iff_iff]
  simp only [Bool.and_eq_true, decide_eq_true_eq]
  constructor
  · rintro ⟨⟨⟨⟨h1, h2⟩, h3⟩, h4⟩, h5⟩
    exact rec_ext h1 h2 h3 h4 h5
  · rintro rfl
    simp
theorem frW_of {x : Rec} (ok : FrOk x) : RecW x := ⟨clkW_of fun i hi => by have := ok.c i hi; exact ⟨by omega, by omega⟩, fun y hy => evW_of (evMay_ok (ok.es y hy)), by have := ok.most; omega⟩
theorem recW_0 : RecW rec0 := ⟨clk0_w, fun y hy => (nomatch hy), by decide⟩
theorem takeF_w (b : List UInt8) : RecW (takeF b).1 := by
  rcases takeF_code b with h | h
  · exact frW_of (frMay_ok (takeF_ok h).2.1)
  · rw [h.1]; exact recW_0
end Go.Proofs.Ytgdbbaggkoillaa

