/- kithlaw20.HubReplies: plain. -/
import Derived.Test.YtbcpabfemejlgaaM18
import Derived.Test.YtbcpabfemejlgaaM8
import Derived.Test.YtbcpabfemejlgaaM13
import Derived.Test.YtbcpabfemejlgaaM9
namespace Go.Proofs.Ytbcpabfemejlgaa
open K
set_option maxRecDepth 100000
set_option maxHeartbeats 4000000

def clkA (h : Nat) : Clk := ⟨h, 0, 0, 0, 0⟩
def rpo (N m : Nat) : Po := ⟨setN (List.replicate N sh0) 0 ⟨0, pevs 0 1 m⟩, List.replicate N clk0⟩
theorem rN {n : Nat} (h1 : 2 ≤ n) (h4 : n ≤ 5) : n = 2 ∨ n = 3 ∨ n = 4 ∨ n = 5 := by omega
theorem rM {n : Nat} (h1 : 1 ≤ n) (h4 : n ≤ 4) : n = 1 ∨ n = 2 ∨ n = 3 ∨ n = 4 := by omega
theorem rH {n : Nat} (h4 : n ≤ 4) : n = 0 ∨ n = 1 ∨ n = 2 ∨ n = 3 ∨ n = 4 := by omega
theorem oneW' {W : Int} (h1 : 1 ≤ W) (h4 : W ≤ 4) : W = 1 ∨ W = 2 ∨ W = 3 ∨ W = 4 := by omega
theorem rp_push {N m : Nat} {W : Int} (n2 : 2 ≤ N) (n5 : N ≤ 5) (h1 : 1 ≤ W) (h4 : W ≤ 4) (m1 : 1 ≤ m) (mW : (m : Int) ≤ W) : poPush W (poNew N) 0 (pevs 0 1 m) = (rpo N m, ((m : Nat) : Int), 0) := by
  rcases oneW' h1 h4 with rfl | rfl | rfl | rfl <;> rcases rM m1 (by omega) with rfl | rfl | rfl | rfl <;> first | omega | (rcases rN n2 n5 with rfl | rfl | rfl | rfl <;> rfl)
theorem rp_again {N m : Nat} {W : Int} (n2 : 2 ≤ N) (n5 : N ≤ 5) (h1 : 1 ≤ W) (h4 : W ≤ 4) (m1 : 1 ≤ m) (mW : (m : Int) ≤ W) : poPush W (rpo N m) 0 (pevs 0 1 m) = (rpo N m, ((m : Nat) : Int), 0) := by
  rcases oneW' h1 h4 with rfl | rfl | rfl | rfl <;> rcases rM m1 (by omega) with rfl | rfl | rfl | rfl <;> first | omega | (rcases rN n2 n5 with rfl | rfl | rfl | rfl <;> rfl)
theorem rp_site {N m : Nat} (n2 : 2 ≤ N) (n5 : N ≤ 5) (m1 : 1 ≤ m) (m4 : m ≤ 4) : (poSite (poNew N)).len.get 0 = 0 ∧ (poSite (rpo N m)).len.get 0 = ((m : Nat) : Int) ∧ (rpo N m).ack 1 = clk0 := by
  rcases rM m1 m4 with rfl | rfl | rfl | rfl <;> rcases rN n2 n5 with rfl | rfl | rfl | rfl <;> exact ⟨rfl, rfl, rfl⟩
theorem rp_fetch {N m h : Nat} (n2 : 2 ≤ N) (n5 : N ≤ 5) (m1 : 1 ≤ m) (m4 : m ≤ 4) (hm : h ≤ m) : poFetch (rpo N m) 1 (clkA h) = ((pevs 0 1 m).drop h, 0) := by
  rcases rM m1 m4 with rfl | rfl | rfl | rfl <;> rcases rH (show h ≤ 4 by omega) with rfl | rfl | rfl | rfl | rfl <;> first | omega | (rcases rN n2 n5 with rfl | rfl | rfl | rfl <;> rfl)
theorem rp_ack {N m h : Nat} (n2 : 2 ≤ N) (n5 : N ≤ 5) (m1 : 1 ≤ m) (m4 : m ≤ 4) (hm : h ≤ m) : (poAck (rpo N m) 1 (clkA h)).2 = 0 ∧ (poSite (poAck (rpo N m) 1 (clkA h)).1).acks.getD 1 clk0 = clkA h := by
  rcases rM m1 m4 with rfl | rfl | rfl | rfl <;> rcases rH (show h ≤ 4 by omega) with rfl | rfl | rfl | rfl | rfl <;> first | omega | (rcases rN n2 n5 with rfl | rfl | rfl | rfl <;> exact ⟨rfl, rfl⟩)
theorem rp_may {m : Nat} (m1 : 1 ≤ m) (m4 : m ≤ 4) : frMay (pfr 0 1 m) = true := by
  rcases rM m1 m4 with rfl | rfl | rfl | rfl <;> decide
theorem rp_may4 {m h : Nat} (m1 : 1 ≤ m) (m4 : m ≤ 4) (hm : h ≤ m) : frMay ⟨4, 1, 0, clk0, (pevs 0 1 m).drop h⟩ = true ∧ frMay ⟨3, 1, 0, clkA h, []⟩ = true ∧ frMay ⟨5, 1, 0, clkA h, []⟩ = true ∧ frMay ⟨2, 0, ((m : Nat) : Int), clk0, []⟩ = true ∧ recMay ⟨6, 1, 0, clkA h, []⟩ = true ∧ recMay ⟨5, 0, 0, clk0, pevs 0 1 m⟩ = true := by
  rcases rM m1 m4 with rfl | rfl | rfl | rfl <;> rcases rH (show h ≤ 4 by omega) with rfl | rfl | rfl | rfl | rfl <;> first | omega | decide
theorem hbWrite_ok (po : Po) (b : List UInt8) (x : Rec) (hm : recMay x = true) : hbWrite ⟨true, po, ⟨b, false, none⟩⟩ x = (⟨true, po, ⟨b ++ putR x, false, none⟩⟩, 0) := by
  unfold hbWrite
  rw [if_neg (by rw [hm]; decide)]
  rfl
def rst (N m : Nat) : Hb := ⟨true, rpo N m, ⟨putR ⟨5, 0, 0, clk0, pevs 0 1 m⟩, false, none⟩⟩
section
variable {c : Cf} {N m h : Nat}
theorem rt1 (hn : c.n = N) (n2 : 2 ≤ N) (n5 : N ≤ 5) (h1 : 1 ≤ c.w) (h4 : c.w ≤ 4) (m1 : 1 ≤ m) (mW : (m : Int) ≤ c.w) : hbTake c (st0 N) (frPut (pfr 0 1 m)) = (rst N m, 0, frPut ⟨2, 0, ((m : Nat) : Int), clk0, []⟩, 0) := by
  have hs := rp_site n2 n5 m1 (show m ≤ 4 by omega)
  have hr : hbReply c (st0 N) (pfr 0 1 m) = (rst N m, ⟨2, 0, ((m : Nat) : Int), clk0, []⟩, 0) := by
    unfold hbReply
    rw [if_pos (show (pfr 0 1 m).kind = 1 from rfl)]
    show (if (poPush c.w (poNew N) 0 (pevs 0 1 m)).2.2 = 0 ∧ (poSite (poNew N)).len.get 0 < (poPush c.w (poNew N) 0 (pevs 0 1 m)).2.1 then ((hbWrite ⟨true, (poPush c.w (poNew N) 0 (pevs 0 1 m)).1, ⟨[], false, none⟩⟩ ⟨5, 0, 0, clk0, pevs 0 1 m⟩).1, (⟨2, 0, (poPush c.w (poNew N) 0 (pevs 0 1 m)).2.1, clk0, []⟩ : Rec), (hbWrite ⟨true, (poPush c.w (poNew N) 0 (pevs 0 1 m)).1, ⟨[], false, none⟩⟩ ⟨5, 0, 0, clk0, pevs 0 1 m⟩).2) else _) = _
    rw [rp_push n2 n5 h1 h4 m1 mW, hbWrite_ok _ _ _ (rp_may4 (h := 0) m1 (by omega) (by omega)).2.2.2.2.2, if_pos ⟨rfl, by rw [hs.1]; show (0 : Int) < (m : Nat); omega⟩]
    rfl
  rw [hbTake_put rfl (rp_may m1 (by omega)) (show ((0 : Nat) : Int) < c.n by omega), hr, if_neg (by simp)]
  rfl
theorem rt2 (hn : c.n = N) (n2 : 2 ≤ N) (n5 : N ≤ 5) (h1 : 1 ≤ c.w) (h4 : c.w ≤ 4) (m1 : 1 ≤ m) (mW : (m : Int) ≤ c.w) : hbTake c (rst N m) (frPut (pfr 0 1 m)) = (rst N m, 0, frPut ⟨2, 0, ((m : Nat) : Int), clk0, []⟩, 0) := by
  have hs := rp_site n2 n5 m1 (show m ≤ 4 by omega)
  have hr : hbReply c (rst N m) (pfr 0 1 m) = (rst N m, ⟨2, 0, ((m : Nat) : Int), clk0, []⟩, 0) := by
    unfold hbReply
    rw [if_pos (show (pfr 0 1 m).kind = 1 from rfl)]
    show (if (poPush c.w (rpo N m) 0 (pevs 0 1 m)).2.2 = 0 ∧ (poSite (rpo N m)).len.get 0 < (poPush c.w (rpo N m) 0 (pevs 0 1 m)).2.1 then _ else ((⟨true, (poPush c.w (rpo N m) 0 (pevs 0 1 m)).1, (rst N m).d⟩ : Hb), (⟨2, 0, (poPush c.w (rpo N m) 0 (pevs 0 1 m)).2.1, clk0, []⟩ : Rec), (poPush c.w (rpo N m) 0 (pevs 0 1 m)).2.2)) = _
    rw [rp_again n2 n5 h1 h4 m1 mW, if_neg (fun h => by rw [hs.2.1] at h; exact absurd h.2 (Int.lt_irrefl _))]
    rfl
  rw [hbTake_put rfl (rp_may m1 (by omega)) (show ((0 : Nat) : Int) < c.n by omega), hr, if_neg (by simp)]
  rfl
theorem rt3 (hn : c.n = N) (n2 : 2 ≤ N) (n5 : N ≤ 5) (m1 : 1 ≤ m) (m4 : m ≤ 4) (hm : h ≤ m) : hbTake c (rst N m) (frPut ⟨3, 1, 0, clkA h, []⟩) = (rst N m, 1, frPut ⟨4, 1, 0, clk0, (pevs 0 1 m).drop h⟩, 0) := by
  have hr : hbReply c (rst N m) ⟨3, 1, 0, clkA h, []⟩ = (rst N m, ⟨4, 0, 0, clk0, (pevs 0 1 m).drop h⟩, 0) := by
    unfold hbReply
    rw [if_neg (show ¬ (3 : Int) = 1 by decide), if_pos rfl]
    show (rst N m, (⟨4, 0, 0, clk0, (poFetch (rpo N m) 1 (clkA h)).1⟩ : Rec), (poFetch (rpo N m) 1 (clkA h)).2) = _
    rw [rp_fetch n2 n5 m1 m4 hm]
  rw [hbTake_put rfl (rp_may4 m1 m4 hm).2.1 (show (1 : Int) < c.n by omega), hr, if_neg (by simp)]
theorem rt4 (hn : c.n = N) (n2 : 2 ≤ N) (n5 : N ≤ 5) (m1 : 1 ≤ m) (m4 : m ≤ 4) (hm : h ≤ m) : ∃ d', hbTake c (rst N m) (frPut ⟨5, 1, 0, clkA h, []⟩) = (⟨true, (poAck (rpo N m) 1 (clkA h)).1, d'⟩, -1, [], 0) := by
  have ha := (rp_ack n2 n5 m1 m4 hm).1
  have hr : ∃ d', hbReply c (rst N m) ⟨5, 1, 0, clkA h, []⟩ = (⟨true, (poAck (rpo N m) 1 (clkA h)).1, d'⟩, rec0, 0) := by
    unfold hbReply
    rw [if_neg (show ¬ (5 : Int) = 1 by decide), if_neg (show ¬ (5 : Int) = 3 by decide), if_pos rfl]
    by_cases hd : (poAck (rpo N m) 1 (clkA h)).2 = 0 ∧ (poAck (rpo N m) 1 (clkA h)).1.ack (1 : Int).toNat ≠ (rpo N m).ack (1 : Int).toNat
    · refine ⟨⟨putR ⟨5, 0, 0, clk0, pevs 0 1 m⟩ ++ putR ⟨6, 1, 0, clkA h, []⟩, false, none⟩, ?_⟩
      have hw := hbWrite_ok (poAck (rpo N m) 1 (clkA h)).1 (putR ⟨5, 0, 0, clk0, pevs 0 1 m⟩) ⟨6, 1, 0, clkA h, []⟩ (rp_may4 m1 m4 hm).2.2.2.2.1
      refine (if_pos hd).trans ?_
      show ((hbWrite ⟨true, (poAck (rpo N m) 1 (clkA h)).1, ⟨putR ⟨5, 0, 0, clk0, pevs 0 1 m⟩, false, none⟩⟩ ⟨6, 1, 0, clkA h, []⟩).1, rec0, (hbWrite ⟨true, (poAck (rpo N m) 1 (clkA h)).1, ⟨putR ⟨5, 0, 0, clk0, pevs 0 1 m⟩, false, none⟩⟩ ⟨6, 1, 0, clkA h, []⟩).2) = _
      rw [hw]
    · refine ⟨(rst N m).d, (if_neg hd).trans ?_⟩
      show ((⟨true, (poAck (rpo N m) 1 (clkA h)).1, (rst N m).d⟩ : Hb), rec0, (poAck (rpo N m) 1 (clkA h)).2) = _
      rw [ha]
  obtain ⟨d', hr⟩ := hr
  refine ⟨d', ?_⟩
  rw [hbTake_put rfl (rp_may4 m1 m4 hm).2.2.1 (show (1 : Int) < c.n by omega), hr, if_pos (Or.inr (show rec0.kind = 0 from rfl))]
end
end Go.Proofs.Ytbcpabfemejlgaa
/- kithlaw20.HubCuts: plain. -/
namespace Go.Proofs.Ytbcpabfemejlgaa
open K
set_option maxRecDepth 100000
set_option maxHeartbeats 4000000

def clk7 : Clk := ⟨7, 0, 0, 0, 0⟩
def cutF (p : Bool) : Rec := bif p then pfr 0 1 1 else ⟨5, 0, 0, clk7, []⟩
def cutR (p : Bool) : Rec := bif p then ⟨5, 0, 0, clk0, pevs 0 1 1⟩ else ⟨6, 0, 0, clk7, []⟩
theorem cutF_may (p : Bool) : frMay (cutF p) = true := by cases p <;> decide
theorem cutR_may (p : Bool) : recMay (cutR p) = true := by cases p <;> decide
theorem cutR_ok (p : Bool) : RecOk (cutR p) := recMay_ok (cutR_may p)
theorem oneW {W : Int} (h1 : 1 ≤ W) (h4 : W ≤ 4) : W = 1 ∨ W = 2 ∨ W = 3 ∨ W = 4 := by omega
theorem oneN {n : Nat} (h1 : 1 ≤ n) (h4 : n ≤ 5) : n = 1 ∨ n = 2 ∨ n = 3 ∨ n = 4 ∨ n = 5 := by omega
theorem cut_push {n : Nat} {W : Int} (n1 : 1 ≤ n) (n5 : n ≤ 5) (h1 : 1 ≤ W) (h4 : W ≤ 4) : (poPush W (poNew n) 0 (pevs 0 1 1)).2 = (1, 0) ∧ (poSite (poPush W (poNew n) 0 (pevs 0 1 1)).1).len.c0 = 1 := by
  rcases oneN n1 n5 with rfl | rfl | rfl | rfl | rfl <;> rcases oneW h1 h4 with rfl | rfl | rfl | rfl <;> exact ⟨rfl, rfl⟩
theorem cut_ack {n : Nat} (n1 : 1 ≤ n) (n5 : n ≤ 5) : (poAck (poNew n) 0 clk7).2 = 0 ∧ (poAck (poNew n) 0 clk7).1.ack 0 = clk7 ∧ (poSite (poAck (poNew n) 0 clk7).1).len.c0 = 0 ∧ (poSite (poAck (poNew n) 0 clk7).1).acks.getD 0 clk0 = clk7 ∧ (poNew n).ack 0 = clk0 := by
  rcases oneN n1 n5 with rfl | rfl | rfl | rfl | rfl <;> exact ⟨rfl, rfl, rfl, rfl, rfl⟩
theorem cut_reply (c : Cf) {n : Nat} (n1 : 1 ≤ n) (n5 : n ≤ 5) (h1 : 1 ≤ c.w) (h4 : c.w ≤ 4) (d : Dk) (p : Bool) : ∃ po1 g, hbReply c ⟨true, poNew n, d⟩ (cutF p) = ((hbWrite ⟨true, po1, d⟩ (cutR p)).1, g, (hbWrite ⟨true, po1, d⟩ (cutR p)).2) := by
  cases p with
  | true =>
    refine ⟨(poPush c.w (poNew n) 0 (pevs 0 1 1)).1, ⟨2, 0, (poPush c.w (poNew n) 0 (pevs 0 1 1)).2.1, clk0, []⟩, ?_⟩
    have h := (cut_push n1 n5 h1 h4).1
    have hs : (poSite (poNew n)).len.get 0 = 0 := by rw [site_new n n5]; rfl
    unfold hbReply
    rw [if_pos (show (cutF true).kind = 1 from rfl)]
    show (if (poPush c.w (poNew n) 0 (pevs 0 1 1)).2.2 = 0 ∧ (poSite (poNew n)).len.get 0 < (poPush c.w (poNew n) 0 (pevs 0 1 1)).2.1 then _ else _) = _
    rw [if_pos ⟨by rw [h], by rw [h, hs]; decide⟩]
    rfl
  | false =>
    obtain ⟨a1, a2, _, _, a5⟩ := cut_ack n1 n5
    refine ⟨(poAck (poNew n) 0 clk7).1, rec0, ?_⟩
    unfold hbReply
    rw [if_neg (show ¬ (cutF false).kind = 1 by decide), if_neg (show ¬ (cutF false).kind = 3 by decide), if_pos (show (cutF false).kind = 5 from rfl)]
    show (if (poAck (poNew n) 0 clk7).2 = 0 ∧ (poAck (poNew n) 0 clk7).1.ack 0 ≠ (poNew n).ack 0 then _ else _) = _
    rw [if_pos ⟨a1, by rw [a2, a5]; decide⟩]
    rfl
theorem cut_write (po1 : Po) (p : Bool) (k : Nat) : hbWrite ⟨true, po1, ⟨[], false, some (k : Nat)⟩⟩ (cutR p) = (⟨false, po0, ⟨(putR (cutR p)).take k, true, none⟩⟩, 18) := by
  unfold hbWrite
  rw [if_neg (by rw [cutR_may]; decide)]
  show (if (18 : Int) ≠ 0 then (hbCrash ⟨true, po1, ⟨[] ++ (putR (cutR p)).take (min (max ((k : Nat) : Int) 0) ((putR (cutR p)).length : Nat)).toNat, true, none⟩⟩, 18) else _) = _
  rw [if_pos (by decide)]
  have e : (putR (cutR p)).take (min (max ((k : Nat) : Int) 0) ((putR (cutR p)).length : Nat)).toNat = (putR (cutR p)).take k := by
    by_cases h : k ≤ (putR (cutR p)).length
    · congr 1; omega
    · rw [List.take_of_length_le (by omega), List.take_of_length_le (by omega)]
  show (Hb.mk false po0 ⟨[] ++ _, true, none⟩, (18 : Int)) = _
  rw [e, List.nil_append]
theorem cut_take (c : Cf) {n : Nat} (hn : c.n = n) (n1 : 1 ≤ n) (n5 : n ≤ 5) (h1 : 1 ≤ c.w) (h4 : c.w ≤ 4) (p : Bool) (k : Nat) : hbTake c ⟨true, poNew n, ⟨[], false, some (k : Nat)⟩⟩ (frPut (cutF p)) = (⟨false, po0, ⟨(putR (cutR p)).take k, true, none⟩⟩, -1, [], 18) := by
  rw [hbTake_put rfl (cutF_may p) (show (cutF p).r < c.n by have : (cutF p).r = 0 := by cases p <;> rfl
                                                            omega)]
  obtain ⟨po1, g, hr⟩ := cut_reply c n1 n5 h1 h4 ⟨[], false, some (k : Nat)⟩ p
  rw [hr, cut_write, if_pos (Or.inl (show (18 : Int) ≠ 0 by decide))]
theorem cutR_len (p : Bool) : 7 ≤ (putR (cutR p)).length ∧ (putR (cutR p)).length ≤ 100 := by
  refine ⟨putR_len _, ?_⟩
  have h1 := vput_lenR (cutR_ok p)
  have h2 : (bodyR (cutR p)).length ≤ 90 := by cases p <;> decide +kernel
  have h3 := sealL_length (bodyR (cutR p))
  unfold putR
  rw [List.length_append]
  omega
/-- What is kept of it: nothing, or all. -/
theorem cut_split (p : Bool) (k : Nat) : ∃ rs t, (putR (cutR p)).take k = putsR rs ++ t ∧ StopR t ∧ ((rs = [] ∧ k < (putR (cutR p)).length) ∨ (rs = [cutR p] ∧ (putR (cutR p)).length ≤ k)) := by
  by_cases h : k < (putR (cutR p)).length
  · exact ⟨[], (putR (cutR p)).take k, rfl, stop_cut (cutR_ok p) k h, .inl ⟨rfl, h⟩⟩
  · exact ⟨[cutR p], [], by rw [List.take_of_length_le (by omega)]; simp [putsR], stop_nil, .inr ⟨rfl, by omega⟩⟩
theorem site_w {N : Nat} {W : Int} {p : Po} (ok : PoOk N W p) : HsW (poSite p) := by
  have hs : poSite p = siteTo p N := by unfold poSite; rw [ok.shs]
  have hg := site_get p N ok.n5 N (Nat.le_refl _)
  have hl := siteTo_len p N
  rw [hs]
  refine ⟨clkW_of fun i hi => ?_, clkW_of fun i hi => ?_, hl, fun x hx => ?_⟩
  · rw [(hg i hi).1]
    split
    · have h := ok.sh i (by assumption)
      have := h.base; have := h.len; unfold Sh.len at this
      exact ⟨by omega, by omega⟩
    · exact ⟨by decide, by decide⟩
  · rw [(hg i hi).2.1]
    split
    · have h := ok.sh i (by assumption)
      have := h.base; have := h.len
      exact ⟨by unfold Sh.len; omega, by omega⟩
    · exact ⟨by decide, by decide⟩
  · obtain ⟨j, hj, rfl⟩ := List.getElem_of_mem hx
    have e : (siteTo p N).acks[j] = (siteTo p N).acks.getD j clk0 := by rw [List.getD_eq_getElem?_getD, List.getElem?_eq_getElem hj]; rfl
    rw [e, (hg j (by omega)).2.2]
    split
    · exact clk_ok_w (ok.ack j (by assumption))
    · exact clk0_w
/-- How the hub stands behind the restart. -/
theorem cut_site {W : Int} {n : Nat} (n1 : 1 ≤ n) (n5 : n ≤ 5) (h1 : 1 ≤ W) (h4 : W ≤ 4) (p : Bool) (rs : List Rec) (hrs : rs = [] ∨ rs = [cutR p]) :
    (rs = [] → poSite (replay W n rs) = hs1) ∧ (rs = [cutR p] → poSite (replay W n rs) ≠ hs1 ∧ ((poSite (replay W n rs)).len.c0 = 1 ∨ (poSite (replay W n rs)).acks.getD 0 clk0 = clk7)) := by
  refine ⟨fun h => by rw [h]; exact site_new n n5, fun h => ?_⟩
  rw [h]
  cases p with
  | true =>
    have h5 := (cut_push n1 n5 h1 h4).2
    have e : replay W n [cutR true] = (poPush W (poNew n) 0 (pevs 0 1 1)).1 := rfl
    rw [e]
    refine ⟨fun h => ?_, .inl h5⟩
    rw [h] at h5
    exact absurd h5 (by decide)
  | false =>
    obtain ⟨_, _, _, h5, _⟩ := cut_ack n1 n5
    have e : replay W n [cutR false] = (poAck (poNew n) 0 clk7).1 := rfl
    rw [e]
    refine ⟨fun h => ?_, .inr h5⟩
    rw [h] at h5
    exact absurd h5 (by decide)
end Go.Proofs.Ytbcpabfemejlgaa
/- A config, a bool, two bytes that are handed in, opened. -/
namespace Go.Proofs.Ytbcpabfemejlgaa
open Go.ChangeShapes Go.WideShapes Go.ChangeAt Go.RowKit
open K
set_option maxRecDepth 100000
section
variable {H : Type} {enc : TypeId × Value → H} {w : World} {base : Nat} {sp : Nat → Bool} {held : Bool}
theorem cellsCf : Try.prog.cellsOf 23 = 6 := by kernel_rfl
theorem list6 {α : Type} {l : List α} (h : l.length = 6) : ∃ a0 a1 a2 a3 a4 a5, l = [a0, a1, a2, a3, a4, a5] := by
  match l, h with
  | [a0, a1, a2, a3, a4, a5], _ => exact ⟨a0, a1, a2, a3, a4, a5, rfl⟩
theorem trod_cfg {n : Nat} {cs : List Value} {y : DataW H × List MemPlace} (h : DataW.trod enc Try.prog w base sp held n 23 cs = some y) : ∃ c : Cf, cs = cfC c := by
  obtain ⟨xs, m, _, hx, hl, hlen, hf⟩ := DataW.trod_struct Try.underlying23 h
  obtain ⟨y0, y1, y2, y3, y4, y5, rfl⟩ := list6 hlen
  rw [cellsCf] at hl
  obtain ⟨c0, c1, c2, c3, c4, c5, rfl⟩ := list6 hl
  have g0 : DataW.trod enc Try.prog w base sp held m 3 (List.take (Try.prog.cellsOf 3) _) = _ := hf 0 _ rfl
  have g1 : DataW.trod enc Try.prog w base sp held m 3 (List.take (Try.prog.cellsOf 3) _) = _ := hf 1 _ rfl
  have g2 : DataW.trod enc Try.prog w base sp held m 3 (List.take (Try.prog.cellsOf 3) _) = _ := hf 2 _ rfl
  have g3 : DataW.trod enc Try.prog w base sp held m 3 (List.take (Try.prog.cellsOf 3) _) = _ := hf 3 _ rfl
  have g4 : DataW.trod enc Try.prog w base sp held m 3 (List.take (Try.prog.cellsOf 3) _) = _ := hf 4 _ rfl
  have g5 : DataW.trod enc Try.prog w base sp held m 3 (List.take (Try.prog.cellsOf 3) _) = _ := hf 5 _ rfl
  rw [cells3] at g0 g1 g2 g3 g4 g5
  obtain ⟨n0, e0, -, -⟩ := DataW.trod_int Try.underlying3 g0
  obtain ⟨n1, e1, -, -⟩ := DataW.trod_int Try.underlying3 g1
  obtain ⟨n2, e2, -, -⟩ := DataW.trod_int Try.underlying3 g2
  obtain ⟨n3, e3, -, -⟩ := DataW.trod_int Try.underlying3 g3
  obtain ⟨n4, e4, -, -⟩ := DataW.trod_int Try.underlying3 g4
  obtain ⟨n5, e5, -, -⟩ := DataW.trod_int Try.underlying3 g5
  injection e0 with e0; injection e1 with e1; injection e2 with e2; injection e3 with e3; injection e4 with e4; injection e5 with e5
  subst e0; subst e1; subst e2; subst e3; subst e4; subst e5
  exact ⟨⟨n0, n1, n2, n3, n4, n5⟩, rfl⟩
theorem open_cfg {b0 : Nat} {v : Value} {d : DataW H} {p : List MemPlace} (hv : Value.okWide Try.prog w .any b0 23 v) (h : DataW.Trod enc Try.prog w base sp held 23 v d p) : ∃ c : Cf, v = .agg (cfC c).toArray := by
  obtain ⟨⟨l⟩, rfl, hsz⟩ := okWide_struct Try.underlying23 hv
  obtain ⟨fuel, hf⟩ := h
  obtain ⟨c, hc⟩ := trod_cfg (show DataW.trod enc Try.prog w base sp held fuel 23 l = some (d, p) from hf)
  subst hc
  exact ⟨c, rfl⟩
theorem ok_arrayb {P : Program} {r : Reach} {t n e : TypeId} {b0 : Nat} {v : Value} (ht : P.underlying t = some (.array n e)) (h : Value.okWide P w r b0 t v) : ∃ cs, v = .agg cs := by
  simp only [Value.okWide, ht] at h
  obtain ⟨cs, h1, _⟩ := h
  exact ⟨cs, h1⟩
theorem cellsU8 : Try.prog.cellsOf 5 = 1 := by kernel_rfl
theorem cellsB2 : Try.prog.cellsOf 36 = 2 := by kernel_rfl
theorem list2b {α : Type} {l : List α} (h : l.length = 2) : ∃ a0 a1, l = [a0, a1] := by
  match l, h with
  | [a0, a1], _ => exact ⟨a0, a1, rfl⟩
theorem u8_wf {n : Int} (h : (Lit.int .u8 n).wf = true) : 0 ≤ n ∧ n ≤ 255 := by
  simpa [Lit.wf, IntKind.min, IntKind.max, IntKind.signed, IntKind.bits] using h
def arrb (x y : Nat) : List Value := [.int .u8 (x : Nat), .int .u8 (y : Nat)]
theorem open_arrb {b0 : Nat} {v : Value} {d : DataW H} {p : List MemPlace} (hv : Value.okWide Try.prog w .any b0 36 v) (h : DataW.Trod enc Try.prog w base sp held 36 v d p) :
    ∃ x0 x1 : Nat, v = .agg (arrb x0 x1).toArray ∧ x0 ≤ 255 ∧ x1 ≤ 255 := by
  obtain ⟨⟨l⟩, rfl⟩ := ok_arrayb Try.underlying36 hv
  obtain ⟨fuel, hf⟩ := h
  obtain ⟨xs, m, _, hx, hl, hlen, hf⟩ := DataW.trod_array Try.underlying36 (show DataW.trod enc Try.prog w base sp held fuel 36 l = some (d, p) from hf)
  obtain ⟨y0, y1, rfl⟩ := list2b hlen
  rw [cellsB2] at hl
  obtain ⟨c0, c1, rfl⟩ := list2b hl
  simp only [cellsU8] at hf
  obtain ⟨n0, e0, rfl, w0⟩ := DataW.trod_int Try.underlying5 (hf 0 (by decide))
  obtain ⟨n1, e1, rfl, w1⟩ := DataW.trod_int Try.underlying5 (hf 1 (by decide))
  injection e0 with e0; injection e1 with e1
  subst e0; subst e1
  have h0 := u8_wf w0
  have h1 := u8_wf w1
  obtain ⟨x0, rfl⟩ := Int.eq_ofNat_of_zero_le h0.1
  obtain ⟨x1, rfl⟩ := Int.eq_ofNat_of_zero_le h1.1
  exact ⟨x0, x1, rfl, by omega, by omega⟩
theorem open_boolv {b0 : Nat} {v : Value} (hv : Value.okWide Try.prog w .any b0 4 v) : ∃ b, v = .bool b := okWide_bool Try.underlying4 hv
end
end Go.Proofs.Ytbcpabfemejlgaa
/- kithlaw20.HubReplies: the walk. -/
namespace Go.Proofs.Ytbcpabfemejlgaa
open K
set_option maxRecDepth 100000
set_option maxHeartbeats 4000000

theorem c_HubReplies (c0 : Cf) (x y : Nat) (hx : x ≤ 255) (hy : y ≤ 255) (w : World) : Cl Try.prog 4 #[.agg (cfC c0).toArray, .agg (arrb x y).toArray] w (fun r w' => r = .bool true ∧ Chg No w w') := by
  have hfit := fun (w' : World) => c_fit11 c0 w'
  have hm0 := cfFit_may c0
  generalize cfFit c0 = d0 at hfit hm0
  obtain ⟨n0, hn0, n01, n05, hW1, hW4⟩ := cf_n hm0
  obtain ⟨N, hN⟩ : ∃ N, N = max n0 2 := ⟨_, rfl⟩
  have n2 : 2 ≤ N := by omega
  have n5 : N ≤ 5 := by omega
  obtain ⟨cn, cw, cq, ch, cl, cp⟩ := d0
  have hn0 : cn = ((n0 : Nat) : Int) := hn0
  have hW1 : 1 ≤ cw := hW1
  have hW4 : cw ≤ 4 := hW4
  have hmx : max cn 2 = ((N : Nat) : Int) := by omega
  have hm : cfMay ⟨(N : Nat), cw, cq, ch, cl, cp⟩ = true := by
    rw [cfMay_all] at hm0 ⊢
    intro i hi
    match i, hi with
    | 0, _ => unfold cfOk; show (decide (1 ≤ ((N : Nat) : Int)) && decide (((N : Nat) : Int) ≤ 5)) = true; rw [decide_eq_true (by omega), decide_eq_true (by omega)]; rfl
    | 1, h => exact hm0 1 h
    | 2, h => exact hm0 2 h
    | 3, h => exact hm0 3 h
    | 4, h => exact hm0 4 h
    | 5, h => exact hm0 5 h
  obtain ⟨Wn, hWn⟩ := Int.eq_ofNat_of_zero_le (show 0 ≤ cw by omega)
  have hq : x % Wn < Wn := Nat.mod_lt _ (by omega)
  obtain ⟨m, hmm⟩ : ∃ m, m = 1 + x % Wn := ⟨_, rfl⟩
  have m1 : 1 ≤ m := by omega
  have m4 : m ≤ 4 := by omega
  have hh : y % (m + 1) < m + 1 := Nat.mod_lt _ (by omega)
  obtain ⟨ha, hha⟩ : ∃ ha, ha = y % (m + 1) := ⟨_, rfl⟩
  have okN : PoOk N cw (poNew N) := poNew_ok (by omega) n5 hW1 hW4
  refine f_enter (args := [_, _]) Try.func4 rfl rfl ?_
  have mm := Mem.nil No w
  refine c_sreg rfl ?_
  refine so (o_bxa mm rfl fun b2 w2 mm => ?_)
  refine so (o_bxa mm rfl fun b3 w3 mm => ?_)
  refine s1 (r_asb rfl) ?_
  refine wn ?_
  refine c_sreg rfl ?_
  refine so (o_c0 (c_shown20 _) ?_)
  rintro _ w4 ⟨rfl, hc⟩
  have mm := mm.frame hc
  refine s1 (r_asb rfl) ?_
  refine wn ?_
  refine c_sreg rfl ?_
  refine s1 (r_lda rfl (mm.b 0 rfl) rfl) ?_
  refine so (o_c1 rfl (hfit _) ?_)
  rintro _ w5 ⟨rfl, hc⟩
  have mm := mm.frame hc
  refine so (o_al mm fun b6 w6 mm => ?_)
  refine ss (o_sta mm 2 rfl rfl rfl rfl rfl (Nat.le_of_ble_eq_true rfl) fun w7 mm => ?_)
  refine wn ?_
  refine c_sreg rfl ?_
  refine s1 (r_fa rfl) ?_
  refine s1 (r_ld rfl (mm.b 2 rfl) rfl) ?_
  refine s1 (r_max2 rfl rfl) ?_
  refine s1 (r_fa rfl) ?_
  refine ss (o_st mm 2 rfl rfl rfl rfl rfl fun w8 mm => ?_)
  refine wn ?_
  have mm : Mem w No _ [bk b2 (cfC c0) 23, bk b3 (arrb x y) 36, bk b6 (cfC ⟨max cn 2, cw, cq, ch, cl, cp⟩) 23] := mm
  rw [hmx] at mm
  refine c_sreg rfl ?_
  refine s1 (r_lda rfl (mm.b 2 rfl) rfl) ?_
  refine so (o_c1 rfl (c_hbNew ⟨(N : Nat), cw, cq, ch, cl, cp⟩ N rfl n5 hm _) ?_)
  rintro _ w9 ⟨z, rfl, hc, hn1⟩
  have mm := mm.new hc hn1
  refine s1 (r_mvu rfl) ?_
  refine s1 (r_extp rfl rfl) ?_
  refine s1 (r_exti rfl rfl) ?_
  refine s1 (r_asp rfl) ?_
  refine s1 (r_asi rfl) ?_
  refine wn ?_
  refine c_seq ?_
  refine c_sreg rfl ?_
  refine s1 (r_mvb rfl) ?_
  refine s1 (r_not rfl) ?_
  refine s1 (r_mvb rfl) ?_
  refine sF rfl rfl (fun h => r_mvp rfl) ?_
  refine sF rfl rfl (fun h => r_pnil Try.underlying25 (sel_t h :) rfl) ?_
  refine s1 (r_or rfl rfl) ?_
  refine s1 (r_mvb rfl) ?_
  refine sF rfl rfl (fun h => r_mvi rfl) ?_
  refine sF rfl rfl (fun h => r_ne (sel_t h :) rfl) ?_
  refine s1 (r_or rfl rfl) ?_
  refine wn ?_
  refine c_cond rfl (fun h => ?_) (fun h => (c_skip (t_n ?_)))
  · cases h
  clear h
  have mm : Mem w No _ [hbI ⟨(N : Nat), cw, cq, ch, cl, cp⟩ z (st0 N), bk b3 (arrb x y) 36, bk b6 (cfC ⟨(N : Nat), cw, cq, ch, cl, cp⟩) 23] := mm.pk [3, 1, 2] (by decide)
  refine c_sreg rfl ?_
  refine s1 (r_ixa rfl rfl (by omega) (by omega)) ?_
  refine s1 (r_ld rfl (mm.b 1 rfl) rfl) ?_
  refine s1 (r_cv rfl (wi (n := ((x : Nat) : Int)) (by omega) (by omega))) ?_
  refine s1 (r_fa rfl) ?_
  refine s1 (r_ld rfl (mm.b 2 rfl) rfl) ?_
  refine s1 (r_rem rfl rfl (show cw ≠ 0 by omega) (show ((x : Nat) : Int).tmod cw = ((x % Wn : Nat) : Int) from by rw [hWn]; rfl)) ?_
  refine s1 (r_add rfl rfl (show IntKind.i64.wrap (1 + ((x % Wn : Nat) : Int)) = ((m : Nat) : Int) from by rw [wi (by omega) (by omega)]; omega)) ?_
  refine s1 (r_asi rfl) ?_
  refine wn ?_
  have hp1 := fun (w' : World) => c_push 0 (by decide) 0 (by decide) (by decide) ⟨0, 0, m - 1, 0, clk0, 0, 0, 0⟩ w'
  rw [show pfr 0 (opFrom 0 ⟨0, 0, m - 1, 0, clk0, 0, 0, 0⟩) (1 + (⟨0, 0, m - 1, 0, clk0, 0, 0, 0⟩ : Opv).many % 5) = pfr 0 1 m from by
    show pfr 0 1 (1 + (m - 1) % 5) = _
    rw [show 1 + (m - 1) % 5 = m by omega]] at hp1
  have hfl := pevs_len 0 1 m
  refine c_sreg rfl ?_
  refine s1 (r_mvi rfl) ?_
  refine s1 (r_sub rfl rfl (wi (by omega) (by omega))) ?_
  refine s1 (r_cv rfl (show IntKind.u8.wrap (((m : Nat) : Int) - 1) = ((m - 1 : Nat) : Int) from by rw [wu8 (by omega) (by omega)]; omega)) ?_
  refine s1 (r_bd (bi rfl bN) rfl) ?_
  refine so (o_c3 rfl rfl rfl (hp1 _) ?_)
  rintro _ w10 ⟨ae, ce, rfl, hc, hn2⟩
  have mm := mm.new hc hn2
  refine so (o_al mm fun b11 w11 mm => ?_)
  refine ss (o_sta mm 4 rfl rfl rfl rfl rfl (Nat.le_of_ble_eq_true rfl) fun w12 mm => ?_)
  refine wn ?_
  have mm : Mem w No _ [hbI ⟨(N : Nat), cw, cq, ch, cl, cp⟩ z (st0 N), bk b3 (arrb x y) 36, own 67 12 ae (pevs 0 1 m).length ce (evsC (pevs 0 1 m)), bk b11 (recV (pfr 0 1 m) ae ce) 40] := mm.pk [0, 1, 3, 4] (by decide)
  have hput := fun (w' : World) h1 => c_put07 (pfr 0 1 m) (a := ae) (cap := ce) w' h1 clk0_w (by show (pevs 0 1 m).length ≤ _; omega)
  have hT1 := rt1 (c := ⟨(N : Nat), cw, cq, ch, cl, cp⟩) rfl n2 n5 hW1 hW4 m1 (show (m : Int) ≤ cw by omega)
  have hT2 := rt2 (c := ⟨(N : Nat), cw, cq, ch, cl, cp⟩) rfl n2 n5 hW1 hW4 m1 (show (m : Int) ≤ cw by omega)
  have hT3 := rt3 (c := ⟨(N : Nat), cw, cq, ch, cl, cp⟩) rfl n2 n5 m1 m4 (show ha ≤ m by omega)
  obtain ⟨d', hT4⟩ := rt4 (c := ⟨(N : Nat), cw, cq, ch, cl, cp⟩) rfl n2 n5 m1 m4 (show ha ≤ m by omega)
  have hBl := frPut_len (pfr 0 1 m)
  generalize frPut (pfr 0 1 m) = B at hput hT1 hT2 hBl
  refine c_sreg rfl ?_
  refine s1 (r_lda rfl (mm.b 3 rfl) rfl) ?_
  refine so (o_c1 rfl (hput _ (mm.c 2 rfl)) ?_)
  rintro _ w13 ⟨aB, cB, rfl, hc, hn2⟩
  have mm := mm.new hc hn2
  refine s1 (r_mvu rfl) ?_
  refine s1 (r_exts rfl rfl) ?_
  refine s1 (r_exti rfl rfl) ?_
  refine s1 (r_ass rfl) ?_
  refine s1 (r_asi rfl) ?_
  refine wn ?_
  have hmy := rp_may4 m1 m4 (show ha ≤ m by omega)
  have okR : PoOk N cw (rpo N m) := by
    have := (push_ok okN 0 (pevs 0 1 m) (fun e he => by
      obtain ⟨i, hi, rfl⟩ := List.mem_map.1 he
      have := List.mem_range.1 hi
      show (1 : Int) + (i : Nat) ≤ _; omega)).1
    rw [rp_push n2 n5 hW1 hW4 m1 (by omega)] at this
    exact this
  have hbl : (rst N m).d.b.length ≤ 100000000 := by
    have := putR_le (recMay_ok hmy.2.2.2.2.2)
    show (putR _).length ≤ _
    omega
  have hB2l := frPut_len ⟨2, 0, ((m : Nat) : Int), clk0, []⟩
  have hF2 := takeF_frPut hmy.2.2.2.1
  generalize frPut ⟨2, 0, ((m : Nat) : Int), clk0, []⟩ = B2 at hT1 hT2 hB2l hF2
  have hB4l := frPut_len ⟨4, 1, 0, clk0, (pevs 0 1 m).drop ha⟩
  have hF4 := takeF_frPut hmy.1
  generalize frPut ⟨4, 1, 0, clk0, (pevs 0 1 m).drop ha⟩ = B4 at hT3 hB4l hF4
  have hput3 := fun (w' : World) h1 => c_put07 ⟨3, 1, 0, clkA ha, []⟩ (a := none) (cap := 0) w' h1 (clk_ok_w (frMay_ok hmy.2.1).c) (Nat.zero_le _)
  have hB3l := frPut_len ⟨3, 1, 0, clkA ha, []⟩
  generalize frPut ⟨3, 1, 0, clkA ha, []⟩ = B3 at hT3 hB3l hput3
  have hput5 := fun (w' : World) h1 => c_put07 ⟨5, 1, 0, clkA ha, []⟩ (a := none) (cap := 0) w' h1 (clk_ok_w (frMay_ok hmy.2.2.1).c) (Nat.zero_le _)
  have hB5l := frPut_len ⟨5, 1, 0, clkA ha, []⟩
  generalize frPut ⟨5, 1, 0, clkA ha, []⟩ = B5 at hT4 hB5l hput5
  have hTk1 := fun (v : Value) (w' : World) h1 h2 => c_hbTakeE ⟨(N : Nat), cw, cq, ch, cl, cp⟩ (N := N) rfl z hT1 (fun _ => okN) (by omega) v (Nat.zero_le _) w' h1 h2
  have mm : Mem w No _ [hbI ⟨(N : Nat), cw, cq, ch, cl, cp⟩ z (st0 N), bk b3 (arrb x y) 36, own 67 12 ae (pevs 0 1 m).length ce (evsC (pevs 0 1 m)), bk b11 (recV (pfr 0 1 m) ae ce) 40, own 5 1 aB B.length cB (u8s B)] := mm
  refine c_sreg rfl ?_
  refine s1 (r_mvp rfl) ?_
  refine s1 (r_mvs rfl) ?_
  refine so (o_c2 rfl rfl (hTk1 _ _ (mm.h 0 rfl) (Sl.own mm 4 rfl)) ?_)
  rintro _ w14 ⟨z1, a1, c1, hz1, rfl, hm1⟩
  have mm := mm.liftL 0 rfl hm1
  refine s1 (r_mvu rfl) ?_
  refine s1 (r_exti rfl rfl) ?_
  refine s1 (r_exts rfl rfl) ?_
  refine s1 (r_exti rfl rfl) ?_
  refine s1 (r_asi rfl) ?_
  refine s1 (r_ass rfl) ?_
  refine s1 (r_asi rfl) ?_
  refine wn ?_
  rw [← hz1]
  have hTk2 := fun (v : Value) (w' : World) h1 h2 => c_hbTakeE ⟨(N : Nat), cw, cq, ch, cl, cp⟩ (N := N) rfl z1 hT2 (fun _ => okR) (by omega) v hbl w' h1 h2
  refine c_sreg rfl ?_
  refine s1 (r_mvp rfl) ?_
  refine s1 (r_mvs rfl) ?_
  refine so (o_c2 rfl rfl (hTk2 _ _ (mm.h 0 rfl) (Sl.own mm 4 rfl)) ?_)
  rintro _ w15 ⟨z2, a2, c2, hz2, rfl, hm1⟩
  have mm := mm.liftL 0 rfl hm1
  refine s1 (r_mvu rfl) ?_
  refine s1 (r_exti rfl rfl) ?_
  refine s1 (r_exts rfl rfl) ?_
  refine s1 (r_exti rfl rfl) ?_
  refine s1 (r_asi rfl) ?_
  refine s1 (r_ass rfl) ?_
  refine s1 (r_asi rfl) ?_
  refine wn ?_
  rw [← hz2]
  refine c_sreg rfl ?_
  refine s1 (r_mvs rfl) ?_
  refine so (o_c1 rfl (c_fTakeQ hF2 (by omega) _ _ (Sl.own mm 5 rfl)) ?_)
  rintro _ w16 ⟨a3, c3, rfl, hc, hn2⟩
  have mm := mm.new hc hn2
  refine s1 (r_mvu rfl) ?_
  refine s1 (r_extg rfl rfl) ?_
  refine s1 (r_exti rfl rfl) ?_
  refine so (o_al mm fun b17 w17 mm => ?_)
  refine ss (o_sta mm 8 rfl rfl rfl rfl rfl (Nat.le_of_ble_eq_true rfl) fun w18 mm => ?_)
  refine s1 (r_asi rfl) ?_
  refine wn ?_
  have mm : Mem w No _ [hbI ⟨(N : Nat), cw, cq, ch, cl, cp⟩ z2 (rst N m), bk b3 (arrb x y) 36, own 67 12 ae (pevs 0 1 m).length ce (evsC (pevs 0 1 m)), bk b11 (recV (pfr 0 1 m) ae ce) 40, own 5 1 a1 B2.length c1 (u8s B2), own 5 1 a2 B2.length c2 (u8s B2), bk b17 (recV ⟨2, 0, ((m : Nat) : Int), clk0, []⟩ a3 c3) 40] := mm.pk [0, 1, 2, 3, 5, 6, 8] (by decide)
  refine c_sreg rfl ?_
  refine s1 (r_ixa rfl rfl (by omega) (by omega)) ?_
  refine s1 (r_ld rfl (mm.b 1 rfl) rfl) ?_
  refine s1 (r_cv rfl (wi (n := ((y : Nat) : Int)) (by omega) (by omega))) ?_
  refine s1 (r_mvi rfl) ?_
  refine s1 (r_add rfl rfl (show IntKind.i64.wrap (((m : Nat) : Int) + 1) = ((m + 1 : Nat) : Int) from wi (by omega) (by omega))) ?_
  refine s1 (r_rem rfl rfl (show ((m + 1 : Nat) : Int) ≠ 0 by omega) (show ((y : Nat) : Int).tmod ((m + 1 : Nat) : Int) = ((ha : Nat) : Int) from by rw [hha]; rfl)) ?_
  refine s1 (r_asi rfl) ?_
  refine wn ?_
  refine c_sreg rfl ?_
  refine s1 (r_mvi rfl) ?_
  refine s1 (r_bd (bi rfl bN) rfl) ?_
  refine s1 (r_bd (bi rfl (bi rfl (bg rfl bN))) rfl) ?_
  refine so (o_c1 rfl (hput3 _ (Cells.nil _ _)) ?_)
  rintro _ w19 ⟨aC, cC, rfl, hc, hn2⟩
  have mm := mm.new hc hn2
  refine s1 (r_mvu rfl) ?_
  refine s1 (r_exts rfl rfl) ?_
  refine s1 (r_exti rfl rfl) ?_
  refine s1 (r_ass rfl) ?_
  refine s1 (r_asi rfl) ?_
  refine wn ?_
  have hTk3 := fun (v : Value) (w' : World) h1 h2 => c_hbTakeE ⟨(N : Nat), cw, cq, ch, cl, cp⟩ (N := N) rfl z2 hT3 (fun _ => okR) (by omega) v hbl w' h1 h2
  refine c_sreg rfl ?_
  refine s1 (r_mvp rfl) ?_
  refine s1 (r_mvs rfl) ?_
  refine so (o_c2 rfl rfl (hTk3 _ _ (mm.h 0 rfl) (Sl.own mm 7 rfl)) ?_)
  rintro _ w20 ⟨z3, a4, c4, hz3, rfl, hm1⟩
  have mm := mm.liftL 0 rfl hm1
  refine s1 (r_mvu rfl) ?_
  refine s1 (r_exti rfl rfl) ?_
  refine s1 (r_exts rfl rfl) ?_
  refine s1 (r_exti rfl rfl) ?_
  refine s1 (r_asi rfl) ?_
  refine s1 (r_ass rfl) ?_
  refine s1 (r_asi rfl) ?_
  refine wn ?_
  rw [← hz3]
  refine c_sreg rfl ?_
  refine s1 (r_mvs rfl) ?_
  refine so (o_c1 rfl (c_fTakeQ hF4 (by omega) _ _ (Sl.own mm 8 rfl)) ?_)
  rintro _ w21 ⟨a5, c5, rfl, hc, hn2⟩
  have mm := mm.new hc hn2
  refine s1 (r_mvu rfl) ?_
  refine s1 (r_extg rfl rfl) ?_
  refine s1 (r_exti rfl rfl) ?_
  refine so (o_al mm fun b22 w22 mm => ?_)
  refine ss (o_sta mm 10 rfl rfl rfl rfl rfl (Nat.le_of_ble_eq_true rfl) fun w23 mm => ?_)
  refine s1 (r_asi rfl) ?_
  refine wn ?_
  refine c_sreg rfl ?_
  refine s1 (r_mvi rfl) ?_
  refine s1 (r_bd (bi rfl bN) rfl) ?_
  refine s1 (r_bd (bi rfl (bi rfl (bg rfl bN))) rfl) ?_
  refine so (o_c1 rfl (hput5 _ (Cells.nil _ _)) ?_)
  rintro _ w24 ⟨aD, cD, rfl, hc, hn2⟩
  have mm := mm.new hc hn2
  refine s1 (r_mvu rfl) ?_
  refine s1 (r_exts rfl rfl) ?_
  refine s1 (r_exti rfl rfl) ?_
  refine s1 (r_ass rfl) ?_
  refine s1 (r_asi rfl) ?_
  refine wn ?_
  have hTk4 := fun (v : Value) (w' : World) h1 h2 => c_hbTakeE ⟨(N : Nat), cw, cq, ch, cl, cp⟩ (N := N) rfl z3 hT4 (fun _ => okR) (by omega) v hbl w' h1 h2
  refine c_sreg rfl ?_
  refine s1 (r_mvp rfl) ?_
  refine s1 (r_mvs rfl) ?_
  refine so (o_c2 rfl rfl (hTk4 _ _ (mm.h 0 rfl) (Sl.own mm 11 rfl)) ?_)
  rintro _ w25 ⟨z4, a6, c6, hz4, rfl, hm1⟩
  have mm := mm.liftL 0 rfl hm1
  refine s1 (r_mvu rfl) ?_
  refine s1 (r_exti rfl rfl) ?_
  refine s1 (r_exts rfl rfl) ?_
  refine s1 (r_exti rfl rfl) ?_
  refine s1 (r_asi rfl) ?_
  refine s1 (r_ass rfl) ?_
  refine s1 (r_asi rfl) ?_
  refine wn ?_
  rw [← hz4]
  have mm : Mem w No _ [hbI ⟨(N : Nat), cw, cq, ch, cl, cp⟩ z4 ⟨true, (poAck (rpo N m) 1 (clkA ha)).1, d'⟩, own 67 12 ae (pevs 0 1 m).length ce (evsC (pevs 0 1 m)), bk b11 (recV (pfr 0 1 m) ae ce) 40, own 5 1 a1 B2.length c1 (u8s B2), own 5 1 a2 B2.length c2 (u8s B2), bk b17 (recV ⟨2, 0, ((m : Nat) : Int), clk0, []⟩ a3 c3) 40, own 67 12 a5 ((pevs 0 1 m).drop ha).length c5 (evsC ((pevs 0 1 m).drop ha)), bk b22 (recV ⟨4, 1, 0, clk0, (pevs 0 1 m).drop ha⟩ a5 c5) 40] := mm.pk [0, 2, 3, 4, 5, 6, 9, 10] (by decide)
  refine c_seq ?_
  refine c_sreg rfl ?_
  refine s1 (r_mvi rfl) ?_
  refine s1 (r_ne rfl rfl) ?_
  refine s1 (r_mvb rfl) ?_
  refine s1k rfl (show _ = Value.bool false from rfl) (r_mvi rfl) ?_
  refine s1k rfl (show _ = Value.bool false from rfl) (r_ne rfl rfl) ?_
  refine s1 (r_or (show _ = Value.bool false from rfl) rfl) ?_
  refine s1 (r_mvb rfl) ?_
  refine s1k rfl (show _ = Value.bool false from rfl) (r_mvi rfl) ?_
  refine s1k rfl (show _ = Value.bool false from rfl) (r_ne rfl rfl) ?_
  refine s1 (r_or (show _ = Value.bool false from rfl) rfl) ?_
  refine s1 (r_mvb rfl) ?_
  refine s1k rfl (show _ = Value.bool false from rfl) (r_mvi rfl) ?_
  refine s1k rfl (show _ = Value.bool false from rfl) (r_ne rfl rfl) ?_
  refine s1 (r_or (show _ = Value.bool false from rfl) rfl) ?_
  refine s1 (r_mvb rfl) ?_
  refine s1k rfl (show _ = Value.bool false from rfl) (r_mvs rfl) ?_
  refine s1k rfl (show _ = Value.bool false from rfl) (r_b2s rfl (mm.c 3 rfl) rfl) ?_
  refine s1k rfl (show _ = Value.bool false from rfl) (r_mvs rfl) ?_
  refine s1k rfl (show _ = Value.bool false from rfl) (r_b2s rfl (mm.c 4 rfl) rfl) ?_
  refine s1k rfl (show _ = Value.bool false from rfl) (r_sne rfl rfl) ?_
  refine s1 (r_or (show _ = Value.bool false from rfl) (congrArg Value.bool (decide_eq_false (p := B2 ≠ B2) (fun h => h rfl)))) ?_
  refine s1 (r_mvb rfl) ?_
  refine s1k rfl (show _ = Value.bool false from rfl) (r_mvi rfl) ?_
  refine s1k rfl (show _ = Value.bool false from rfl) (r_ne rfl rfl) ?_
  refine s1 (r_or (show _ = Value.bool false from rfl) rfl) ?_
  refine s1 (r_mvb rfl) ?_
  refine s1k rfl (show _ = Value.bool false from rfl) (r_fa rfl) ?_
  refine s1k rfl (show _ = Value.bool false from rfl) (r_ld rfl (mm.b 5 rfl) rfl) ?_
  refine s1k rfl (show _ = Value.bool false from rfl) (r_ne rfl rfl) ?_
  refine s1 (r_or (show _ = Value.bool false from rfl) rfl) ?_
  refine s1 (r_mvb rfl) ?_
  refine s1k rfl (show _ = Value.bool false from rfl) (r_fa rfl) ?_
  refine s1k rfl (show _ = Value.bool false from rfl) (r_ld rfl (mm.b 5 rfl) rfl) ?_
  refine s1k rfl (show _ = Value.bool false from rfl) (r_ne rfl rfl) ?_
  refine s1 (r_or (show _ = Value.bool false from rfl) rfl) ?_
  refine s1 (r_mvb rfl) ?_
  refine s1k rfl (show _ = Value.bool false from rfl) (r_fa rfl) ?_
  refine s1k rfl (show _ = Value.bool false from rfl) (r_ld rfl (mm.b 5 rfl) rfl) ?_
  refine s1k rfl (show _ = Value.bool false from rfl) (r_mvi rfl) ?_
  refine s1k rfl (show _ = Value.bool false from rfl) (r_ne rfl rfl) ?_
  refine s1 (r_or (show _ = Value.bool false from rfl) (congrArg Value.bool (decide_eq_false (p := ((m : Nat) : Int) ≠ ((m : Nat) : Int)) (fun h => h rfl)))) ?_
  refine wn ?_
  refine c_cond rfl (fun h => ?_) (fun h => (c_skip (t_n ?_)))
  · cases h
  clear h
  have hce := own_le (mm.o 1 rfl)
  have hdl : ((pevs 0 1 m).drop ha).length = (pevs 0 1 m).length - ha := List.length_drop
  have hpa := (rp_ack n2 n5 m1 m4 (show ha ≤ m by omega)).2
  have okA := (poAck_ok okR 1 (clkA ha) (frMay_ok hmy.2.2.1).c).1
  have hSw := site_w okA
  have hS := fun (w' : World) h1 => c_hbSite (N := N) ⟨(N : Nat), cw, cq, ch, cl, cp⟩ z4 ⟨true, (poAck (rpo N m) 1 (clkA ha)).1, d'⟩ (fun _ => okA) w' h1
  rw [show hbSite ⟨true, (poAck (rpo N m) 1 (clkA ha)).1, d'⟩ = poSite (poAck (rpo N m) 1 (clkA ha)).1 from rfl] at hS
  generalize poSite (poAck (rpo N m) 1 (clkA ha)).1 = S at hS hpa hSw
  have hhw : ClkW (clkA ha) := clk_ok_w (frMay_ok hmy.2.1).c
  have hevw : ∀ e ∈ (pevs 0 1 m).drop ha, EvW e := fun e he => evW_of (evMay_ok ((frMay_ok hmy.1).es e he))
  have Hd : ∀ w', Cells w' ae (evsC (pevs 0 1 m)) → Cells w' (slA ae ce ha 12) (evsC ((pevs 0 1 m).drop ha)) := fun w' H => by
    have h1 := Cells.sl H (evsC_length (pevs 0 1 m)) hce ha
    rwa [evsC_drop] at h1
  have hsm := fun (w' : World) (H1 : Cells w' a5 (evsC ((pevs 0 1 m).drop ha))) (H2 : Cells w' ae (evsC (pevs 0 1 m))) => Cl.mono (R' := fun r w'' => r = .bool true ∧ Chg No w' w'') (c_same6 _ _ hevw hevw (by omega) (.slice a5 ((pevs 0 1 m).drop ha).length c5) (.slice (slA ae ce ha 12) ((pevs 0 1 m).drop ha).length (ce - ha)) w' ⟨_, _, rfl, H1⟩ ⟨_, _, rfl, Hd _ H2⟩) (fun _ _ h => ⟨h.1.trans (congrArg Value.bool (decide_eq_true rfl)), h.2⟩)
  have hb0 : (0 : Int) ≤ ((ha : Nat) : Int) := by omega
  have hb1 : ((ha : Nat) : Int) ≤ (((pevs 0 1 m).length : Nat) : Int) := by omega
  have hp198 : Value.slice (slA ae ce (((ha : Nat) : Int)).toNat 12) ((pevs 0 1 m).length - (((ha : Nat) : Int)).toNat) (ce - (((ha : Nat) : Int)).toNat) = Value.slice (slA ae ce ha 12) ((pevs 0 1 m).drop ha).length (ce - ha) := by rw [hdl]; rfl
  refine c_sdraw2 mixed [(0, some 0), (1, some 0), (2, some 0), (3, some 0), (4, some 0), (5, some 0), (6, some 0), (7, some 0), (8, some 0), (9, some 0), (10, some 0), (11, some 0), (12, some 2), (13, some 0), (14, some 0), (15, some 0), (16, some 0), (17, some 2), (18, some 0), (19, some 0), (20, some 0), (21, some 0), (23, some 0), (25, some 0), (22, some 2), (24, some 2), (26, some 2), (27, none), (28, some 0), (29, some 0), (30, some 0), (31, some 0), (32, some 0), (33, some 0), (34, some 0), (35, some 0), (36, some 0), (37, some 0), (38, some 0), (39, some 0), (40, some 0), (41, some 0), (42, some 0), (43, some 0), (47, some 0), (48, some 0), (44, none), (45, some 0), (46, some 0), (49, some 0), (50, some 0), (51, some 0)] [0, 0, 0, 0, 0, 0, 0, 0, 0, 0, 0, 0, 0, 0, 0, 0, 0, 0, 0, 0, 0, 0, 0, 0, 2, 0, 2, 0, 0, 0, 0, 0, 0, 0, 0, 0, 0, 0, 0, 0, 0, 0, 0, 0, 0, 0, 0, 0, 0, 0, 0, 0] (Sof mm) (Sof mm) (fun _ h => h) (by kernel_rfl) rfl rfl (by kernel_rfl) (fun w26 hc => ?_)
  have mm := mm.frame hc
  refine q01 rfl (fun w => r_mvi rfl) ?_
  refine q01 rfl (fun w => r_eq rfl rfl) ?_
  refine q01 rfl (fun w => r_mvb rfl) ?_
  refine q0K rfl rfl (show _ = Value.bool true from rfl) (fun w => r_mvi rfl) ?_
  refine q0K rfl rfl (show _ = Value.bool true from rfl) (fun w => r_eq rfl rfl) ?_
  refine q01 rfl (fun w => r_and (show _ = Value.bool true from rfl) rfl) ?_
  refine q01 rfl (fun w => r_mvb rfl) ?_
  refine q0K rfl rfl (show _ = Value.bool true from rfl) (fun w => r_mvi rfl) ?_
  refine q0K rfl rfl (show _ = Value.bool true from rfl) (fun w => r_eq rfl rfl) ?_
  refine q01 rfl (fun w => r_and (show _ = Value.bool true from rfl) rfl) ?_
  refine q01 rfl (fun w => r_mvb rfl) ?_
  refine q0K rfl rfl (show _ = Value.bool true from rfl) (fun w => r_fa rfl) ?_
  refine qAK rfl rfl (show _ = Value.bool true from rfl) (fun w m => r_ld rfl (m.b 7 rfl) rfl) mm ?_
  refine q0K rfl rfl (show _ = Value.bool true from rfl) (fun w => r_eq rfl rfl) ?_
  refine q01 rfl (fun w => r_and (show _ = Value.bool true from rfl) rfl) ?_
  refine q01 rfl (fun w => r_mvb rfl) ?_
  refine q0K rfl rfl (show _ = Value.bool true from rfl) (fun w => r_fa rfl) ?_
  refine qAK rfl rfl (show _ = Value.bool true from rfl) (fun w m => r_ld rfl (m.b 7 rfl) rfl) mm ?_
  refine q0K rfl rfl (show _ = Value.bool true from rfl) (fun w => r_eq rfl rfl) ?_
  refine q01 rfl (fun w => r_and (show _ = Value.bool true from rfl) rfl) ?_
  refine q01 rfl (fun w => r_mvb rfl) ?_
  refine q0K rfl rfl (show _ = Value.bool true from rfl) (fun w => r_fa rfl) ?_
  refine q0K rfl rfl (show _ = Value.bool true from rfl) (fun w => r_fa rfl) ?_
  refine q0K rfl rfl (show _ = Value.bool true from rfl) (fun w => r_mvi rfl) ?_
  refine qAK rfl rfl (show _ = Value.bool true from rfl) (fun w m => r_ld rfl (m.b 7 rfl) rfl) mm ?_
  refine qAK rfl rfl (show _ = Value.bool true from rfl) (fun w m => r_ld rfl (m.b 2 rfl) rfl) mm ?_
  refine qAK rfl rfl (show _ = Value.bool true from rfl) (fun w m => r_sll rfl rfl hb0 hb1) mm ?_
  refine qoK rfl rfl (show _ = Value.bool true from rfl) (o_c2 rfl hp198 (hsm _ (mm.c 6 rfl) (mm.c 1 rfl)) ?_)
  rintro _ w27 ⟨rfl, hc⟩
  have mm := mm.frame hc
  refine ⟨trivial, ?_⟩
  refine q01 rfl (fun w => r_and (show _ = Value.bool true from rfl) rfl) ?_
  refine q01 rfl (fun w => r_mvb rfl) ?_
  refine q0K rfl rfl (show _ = Value.bool true from rfl) (fun w => r_mvi rfl) ?_
  refine q0K rfl rfl (show _ = Value.bool true from rfl) (fun w => r_eq rfl rfl) ?_
  refine q01 rfl (fun w => r_and (show _ = Value.bool true from rfl) rfl) ?_
  refine q01 rfl (fun w => r_mvb rfl) ?_
  refine q0K rfl rfl (show _ = Value.bool true from rfl) (fun w => r_mvs rfl) ?_
  refine q0K rfl rfl (show _ = Value.bool true from rfl) (fun w => r_len rfl) ?_
  refine q0K rfl rfl (show _ = Value.bool true from rfl) (fun w => r_eq rfl rfl) ?_
  refine q01 rfl (fun w => r_and (show _ = Value.bool true from rfl) rfl) ?_
  refine q01 rfl (fun w => r_mvb rfl) ?_
  refine q0K rfl rfl (show _ = Value.bool true from rfl) (fun w => r_mvi rfl) ?_
  refine q0K rfl rfl (show _ = Value.bool true from rfl) (fun w => r_eq rfl rfl) ?_
  refine q01 rfl (fun w => r_and (show _ = Value.bool true from rfl) rfl) ?_
  refine q01 rfl (fun w => r_mvb rfl) ?_
  refine q0K rfl rfl (show _ = Value.bool true from rfl) (fun w => r_mvp rfl) ?_
  refine q0K rfl rfl (show _ = Value.bool true from rfl) (fun w => r_mvi rfl) ?_
  refine q0K rfl rfl (show _ = Value.bool true from rfl) (fun w => r_bd (bi rfl bN) rfl) ?_
  refine qoK rfl rfl (show _ = Value.bool true from rfl) (o_c1 rfl (hS _ (mm.h 0 rfl)) ?_)
  rintro _ w28 ⟨rfl, hc⟩
  have mm := mm.frame hc
  refine ⟨trivial, ?_⟩
  refine q0K rfl rfl (show _ = Value.bool true from rfl) (fun w => r_fldg rfl (hs_segacks S hSw.al)) ?_
  refine q0K rfl rfl (show _ = Value.bool true from rfl) (fun w => r_ixva rfl rfl (by decide) (by decide) (acks_pack (s := 1) (c := clkA ha) S.acks rfl (by rw [hSw.al]; decide) hpa)) ?_
  refine q0K rfl rfl (show _ = Value.bool true from rfl) (fun w => r_eqa clk_guard (clk_eq _ _ hhw hhw) rfl rfl) ?_
  refine q01 rfl (fun w => r_and (show _ = Value.bool true from rfl) rfl) ?_
  refine q01 rfl (fun w => r_asb rfl) ?_
  refine qn ?_
  exact c_ret (ret1 (v := .bool (true && decide (clkA ha = clkA ha))) rfl rfl ⟨by simp, mm.chg⟩)
end Go.Proofs.Ytbcpabfemejlgaa
