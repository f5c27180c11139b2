/- What the hub keeps: shelves and posts, plain. -/
import Derived.Test.YtbcpabfemejlgaaM5
import Derived.Test.YtbcpabfemejlgaaM2
import Derived.Carry
namespace Go.Proofs.Ytbcpabfemejlgaa
open K

def Clk.join (a b : Clk) : Clk := ⟨max a.c0 b.c0, max a.c1 b.c1, max a.c2 b.c2, max a.c3 b.c3, max a.c4 b.c4⟩
theorem Clk.get_join (a b : Clk) (i : Nat) (hi : i < 5) : (a.join b).get i = max (a.get i) (b.get i) := by
  match i, hi with
  | 0, _ => rfl | 1, _ => rfl | 2, _ => rfl | 3, _ => rfl | 4, _ => rfl

structure Sh where
  base : Int
  l : List Ev
def Sh.len (s : Sh) : Int := s.base + (s.l.length : Nat)
/-- Each is the next one of the one ahead of it. -/
def rowOk : List Ev → Bool
  | [] => true
  | a :: l => (match l with | [] => true | b :: _ => decide (b.n = a.n + 1)) && rowOk l
def gapOk (n : Int) (l : List Ev) : Bool := (match l with | [] => true | e :: _ => decide (e.n ≤ n + 1)) && rowOk l
def above (n : Int) (l : List Ev) : List Ev := l.dropWhile fun e => decide (e.n ≤ n)
def shPut (W : Int) (s : Sh) (l : List Ev) : Sh × Int :=
  if gapOk s.len l = false then (s, 20)
  else if above s.len l = [] then (s, 0)
  else if W < ((s.l.length + (above s.len l).length : Nat) : Int) then (s, 21)
  else ({ s with l := s.l ++ above s.len l }, 0)
def shCut (s : Sh) (n : Int) : Sh := if min n s.len ≤ s.base then s else ⟨min n s.len, s.l.drop (min n s.len - s.base).toNat⟩

structure ShOk (W : Int) (s : Sh) : Prop where
  base : 0 ≤ s.base
  win : (s.l.length : Int) ≤ W
  len : s.len ≤ 1048576
  num : ∀ i (h : i < s.l.length), s.l[i].n = s.base + 1 + (i : Nat)

theorem rowOk_num : ∀ (l : List Ev), rowOk l = true → ∀ (i : Nat) (h : i < l.length), l[i].n = (l[0]'(by omega)).n + (i : Nat)
  | [], _, i, h => absurd h (by simp)
  | [a], _, i, h => by
    have : i = 0 := by simp at h; exact h
    subst this; simp
  | a :: b :: l, hr, i, h => by
    simp only [rowOk, Bool.and_eq_true, decide_eq_true_eq] at hr
    obtain ⟨h1, h2⟩ := hr
    cases i with
    | zero => simp
    | succ i =>
      have ih := rowOk_num (b :: l) (by simp only [rowOk, Bool.and_eq_true]; exact h2) i (by simpa using h)
      simp only [List.getElem_cons_succ, List.getElem_cons_zero] at ih ⊢
      rw [ih, h1]; omega
theorem above_sub (n : Int) (l : List Ev) : ∃ k, k ≤ l.length ∧ above n l = l.drop k ∧ ∀ i (h : i < k) (h' : i < l.length), l[i].n ≤ n := by
  induction l with
  | nil => exact ⟨0, Nat.le_refl _, rfl, fun i h => absurd h (by omega)⟩
  | cons a l ih =>
    by_cases ha : a.n ≤ n
    · obtain ⟨k, h1, h2, h3⟩ := ih
      refine ⟨k + 1, by simp; omega, ?_, fun i h h' => ?_⟩
      · unfold above at *
        rw [List.dropWhile_cons, if_pos (by simpa using ha), h2]; rfl
      · cases i with
        | zero => exact ha
        | succ i => exact h3 i (by omega) (by simpa using h')
    · refine ⟨0, Nat.zero_le _, ?_, fun i h => absurd h (by omega)⟩
      unfold above
      rw [List.dropWhile_cons, if_neg (by simpa using ha)]; rfl
theorem above_mem {n : Int} {l : List Ev} {e : Ev} (h : e ∈ above n l) : e ∈ l := by
  obtain ⟨k, _, h2, _⟩ := above_sub n l
  rw [h2] at h
  exact List.mem_of_mem_drop h
theorem above_head {n : Int} {l : List Ev} {e : Ev} {t : List Ev} (h : above n l = e :: t) : n < e.n := by
  induction l with
  | nil => cases h
  | cons a l ih =>
    unfold above at h ih
    rw [List.dropWhile_cons] at h
    split at h
    · exact ih h
    · rename_i h2
      cases h
      simp at h2
      exact h2
/-- What is above is numbered on. -/
theorem above_num {n : Int} {l : List Ev} (hg : gapOk n l = true) : ∀ i (h : i < (above n l).length), (above n l)[i].n = n + 1 + (i : Nat) := by
  intro i hi
  obtain ⟨k, h1, h2, h3⟩ := above_sub n l
  unfold gapOk at hg
  simp only [Bool.and_eq_true] at hg
  have hr := rowOk_num l hg.2
  have hl : (above n l).length = l.length - k := by rw [h2, List.length_drop]
  have hik : k + i < l.length := by omega
  have e1 : (above n l)[i] = l[k + i] := by
    have : (above n l)[i] = (l.drop k)[i]'(by rw [List.length_drop]; omega) := by simp only [h2]
    rw [this, List.getElem_drop]
  have hk : k < l.length := by omega
  have e0 : n < (l[k]).n := by
    have h4 : above n l = l[k] :: l.drop (k + 1) := by rw [h2, List.drop_eq_getElem_cons hk]
    exact above_head h4
  have hf : (l[0]'(by omega)).n ≤ n + 1 := by
    cases l with
    | nil => simp at hk
    | cons a t => simpa using hg.1
  have hk1 := hr k hk
  have hik1 := hr (k + i) hik
  have hkk : (l[k]).n = n + 1 := by
    cases k with
    | zero => omega
    | succ k =>
      have := h3 k (by omega) (by omega)
      have := hr k (by omega)
      omega
  rw [e1]; omega
theorem shPut_ok {W : Int} {s : Sh} {l : List Ev} (ok : ShOk W s) (hl : ∀ e ∈ l, e.n ≤ 1048576) : ShOk W (shPut W s l).1 := by
  unfold shPut
  split
  · exact ok
  · rename_i hg
    split
    · exact ok
    · rename_i ha
      split
      · exact ok
      · rename_i hw
        have hg : gapOk s.len l = true := by simpa using hg
        have hn := above_num hg
        have hpos : 0 < (above s.len l).length := List.length_pos_iff.2 ha
        refine ⟨ok.base, by rw [List.length_append]; omega, ?_, fun i h => ?_⟩
        · show s.base + ((s.l ++ above s.len l).length : Nat) ≤ 1048576
          rw [List.length_append]
          have h1 := hn ((above s.len l).length - 1) (by omega)
          have h3 := hl _ (above_mem (List.getElem_mem (by omega : (above s.len l).length - 1 < (above s.len l).length)))
          have h4 : s.len = s.base + (s.l.length : Nat) := rfl
          omega
        · show (s.l ++ above s.len l)[i].n = s.base + 1 + (i : Nat)
          rcases Nat.lt_or_ge i s.l.length with h5 | h5
          · rw [List.getElem_append_left h5]; exact ok.num i h5
          · rw [List.getElem_append_right h5, hn]
            have h4 : s.len = s.base + (s.l.length : Nat) := rfl
            omega
theorem shCut_len (s : Sh) (n : Int) (hb : 0 ≤ s.base) : (shCut s n).len = s.len := by
  unfold shCut
  split
  · rfl
  · rename_i h
    show min n s.len + ((s.l.drop (min n s.len - s.base).toNat).length : Nat) = s.base + (s.l.length : Nat)
    rw [List.length_drop]
    have h4 : s.len = s.base + (s.l.length : Nat) := rfl
    omega
theorem shCut_base (s : Sh) (n : Int) (h : s.base ≤ s.len) : (shCut s n).base = max s.base (min n s.len) := by
  unfold shCut
  split
  · show s.base = _; omega
  · show min n s.len = _; omega
theorem shCut_ok {W : Int} {s : Sh} (n : Int) (ok : ShOk W s) : ShOk W (shCut s n) := by
  have hlen := shCut_len s n ok.base
  have hb := ok.base; have hw := ok.win; have hl := ok.len
  have hn := ok.num
  unfold shCut at hlen ⊢
  split
  · exact ok
  · rename_i h
    rw [if_neg h] at hlen
    have h4 : s.len = s.base + (s.l.length : Nat) := rfl
    refine ⟨by show 0 ≤ min n s.len; omega, by show ((s.l.drop (min n s.len - s.base).toNat).length : Int) ≤ W; rw [List.length_drop]; omega, by rw [hlen]; exact hl, fun i hi => ?_⟩
    have hi2 : i < s.l.length - (min n s.len - s.base).toNat := by rw [← List.length_drop]; exact hi
    show (s.l.drop (min n s.len - s.base).toNat)[i].n = min n s.len + 1 + (i : Nat)
    rw [List.getElem_drop, hn _ (by omega)]
    omega
theorem shPut_len {W : Int} {s : Sh} {l : List Ev} : s.len ≤ (shPut W s l).1.len ∧ (shPut W s l).1.base = s.base := by
  unfold shPut
  split
  · exact ⟨Int.le_refl _, rfl⟩
  · split
    · exact ⟨Int.le_refl _, rfl⟩
    · split
      · exact ⟨Int.le_refl _, rfl⟩
      · refine ⟨?_, rfl⟩
        show s.base + (s.l.length : Nat) ≤ s.base + ((s.l ++ above s.len l).length : Nat)
        rw [List.length_append]; omega
end Go.Proofs.Ytbcpabfemejlgaa
/- Posts, plain: what is pushed, told, cut. -/
namespace Go.Proofs.Ytbcpabfemejlgaa
open K

def sh0 : Sh := ⟨0, []⟩
structure Po where
  shs : List Sh
  acks : List Clk
def Po.sh (p : Po) (s : Nat) : Sh := p.shs.getD s sh0
def Po.ack (p : Po) (r : Nat) : Clk := p.acks.getD r clk0
def least (acks : List Clk) (s : Nat) : Int := acks.foldl (fun m a => min m (a.get s)) ((acks.getD 0 clk0).get s)
def poCutAt (p : Po) (s : Nat) : Po := { p with shs := setN p.shs s (shCut (p.sh s) (least p.acks s)) }
def poCutTo (p : Po) : Nat → Po
  | 0 => p
  | k + 1 => poCutAt (poCutTo p k) k
def poIs (p : Po) (r : Int) : Bool := decide (0 ≤ r) && decide (r < (p.shs.length : Nat))
def poPush (W : Int) (p : Po) (r : Int) (l : List Ev) : Po × Int × Int :=
  if (!poIs p r || l.any fun e => decide (e.r ≠ r)) = true then (p, 0, 23)
  else if (shPut W (p.sh r.toNat) l).2 ≠ 0 then (p, 0, (shPut W (p.sh r.toNat) l).2)
  else (poCutAt { p with shs := setN p.shs r.toNat (shPut W (p.sh r.toNat) l).1 } r.toNat, (poCutAt { p with shs := setN p.shs r.toNat (shPut W (p.sh r.toNat) l).1 } r.toNat).sh r.toNat |>.len, 0)
def fetchTo (p : Po) (r : Int) (c : Clk) : Nat → List Ev
  | 0 => []
  | s + 1 => fetchTo p r c s ++ if ((s : Nat) : Int) ≠ r then above (c.get s) (p.sh s).l else []
def poFetch (p : Po) (r : Int) (c : Clk) : List Ev × Int := if poIs p r = false then ([], 23) else (fetchTo p r c p.shs.length, 0)
def poAck (p : Po) (r : Int) (c : Clk) : Po × Int :=
  if poIs p r = false then (p, 23) else (poCutTo { p with acks := setN p.acks r.toNat ((p.ack r.toNat).join c) } p.shs.length, 0)
def poNew (N : Nat) : Po := ⟨List.replicate N sh0, List.replicate N clk0⟩

theorem getD_setN {α : Type} (d : α) : ∀ (l : List α) (i j : Nat) (v : α), (setN l i v).getD j d = if i = j ∧ j < l.length then v else l.getD j d
  | [], i, j, v => by
    show ([] : List α).getD j d = _
    rw [if_neg (by simp)]
  | x :: l, 0, 0, v => by rw [if_pos ⟨rfl, by simp⟩]; rfl
  | x :: l, 0, j + 1, v => by rw [if_neg (by omega)]; rfl
  | x :: l, i + 1, 0, v => by rw [if_neg (by omega)]; rfl
  | x :: l, i + 1, j + 1, v => by
    show (setN l i v).getD j d = _
    rw [getD_setN d l i j v]
    have : (i = j ∧ j < l.length) ↔ (i + 1 = j + 1 ∧ j + 1 < (x :: l).length) := by simp
    by_cases h : i = j ∧ j < l.length
    · rw [if_pos h, if_pos (this.1 h)]
    · rw [if_neg h, if_neg (fun hh => h (this.2 hh))]; rfl
theorem setN_length {α : Type} : ∀ (l : List α) (i : Nat) (v : α), (setN l i v).length = l.length
  | [], _, _ => rfl
  | _ :: _, 0, _ => rfl
  | _ :: l, i + 1, v => by show (setN l i v).length + 1 = _; rw [setN_length l i v]; rfl
theorem setN_same {α : Type} (d : α) : ∀ (l : List α) (i : Nat), setN l i (l.getD i d) = l
  | [], _ => rfl
  | _ :: _, 0 => rfl
  | x :: l, i + 1 => by show x :: setN l i (l.getD i d) = _; rw [setN_same d l i]
theorem least_le_init (acks : List Clk) (s : Nat) : ∀ (m : Int), acks.foldl (fun m a => min m (a.get s)) m ≤ m := by
  induction acks with
  | nil => intro m; exact Int.le_refl _
  | cons a l ih => intro m; simp only [List.foldl_cons]; have := ih (min m (a.get s)); omega
theorem least_le (acks : List Clk) (s : Nat) (r : Nat) (h : r < acks.length) : least acks s ≤ (acks.getD r clk0).get s := by
  unfold least
  generalize (acks.getD 0 clk0).get s = m
  induction acks generalizing m r with
  | nil => simp at h
  | cons a l ih =>
    simp only [List.foldl_cons]
    cases r with
    | zero =>
      have := least_le_init l s (min m (a.get s))
      show _ ≤ a.get s
      omega
    | succ r => exact ih r (by simpa using h) _
theorem least_mono_aux (l l' : List Clk) (s : Nat) (hl : l.length = l'.length) (h : ∀ r, r < l.length → (l.getD r clk0).get s ≤ (l'.getD r clk0).get s) : ∀ (m m' : Int), m ≤ m' → l.foldl (fun m a => min m (a.get s)) m ≤ l'.foldl (fun m a => min m (a.get s)) m' := by
  induction l generalizing l' with
  | nil =>
    intro m m' hm
    cases l' with
    | nil => exact hm
    | cons a l' => simp at hl
  | cons a l ih =>
    intro m m' hm
    cases l' with
    | nil => simp at hl
    | cons a' l' =>
      simp only [List.foldl_cons]
      refine ih l' (by simpa using hl) (fun r hr => h (r + 1) (by simpa using hr)) _ _ ?_
      have := h 0 (by simp)
      have h0 : a.get s ≤ a'.get s := this
      omega
theorem least_mono (l l' : List Clk) (s : Nat) (hl : l.length = l'.length) (h0 : 0 < l.length) (h : ∀ r, r < l.length → (l.getD r clk0).get s ≤ (l'.getD r clk0).get s) : least l s ≤ least l' s :=
  least_mono_aux l l' s hl h _ _ (h 0 h0)
theorem least_in (l : List Clk) (s : Nat) (lo hi : Int) (h0 : 0 < l.length) (h : ∀ r, r < l.length → lo ≤ (l.getD r clk0).get s ∧ (l.getD r clk0).get s ≤ hi) : lo ≤ least l s ∧ least l s ≤ hi := by
  refine ⟨?_, Int.le_trans (least_le l s 0 h0) (h 0 h0).2⟩
  unfold least
  have key : ∀ (l : List Clk), (∀ r, r < l.length → lo ≤ (l.getD r clk0).get s) → ∀ m, lo ≤ m → lo ≤ l.foldl (fun m a => min m (a.get s)) m := by
    intro l
    induction l with
    | nil => intro _ m hm; exact hm
    | cons a l ih =>
      intro hl m hm
      simp only [List.foldl_cons]
      refine ih (fun r hr => hl (r + 1) (by simpa using hr)) _ ?_
      have : lo ≤ a.get s := hl 0 (by simp)
      omega
  exact key l (fun r hr => (h r hr).1) _ (h 0 h0).1

structure PoOk (N : Nat) (W : Int) (p : Po) : Prop where
  n1 : 1 ≤ N
  n5 : N ≤ 5
  w1 : 1 ≤ W
  w4 : W ≤ 4
  shs : p.shs.length = N
  acks : p.acks.length = N
  sh : ∀ s, s < N → ShOk W (p.sh s)
  ack : ∀ r, r < N → ∀ s, s < 5 → 0 ≤ (p.ack r).get s ∧ (p.ack r).get s ≤ 1048576
  cut : ∀ s, s < N → (p.sh s).base = min (least p.acks s) (p.sh s).len
section
variable {N : Nat} {W : Int} {p : Po}
theorem PoOk.least (ok : PoOk N W p) (s : Nat) (hs : s < 5) : 0 ≤ least p.acks s ∧ least p.acks s ≤ 1048576 :=
  least_in _ _ _ _ (by rw [ok.acks]; exact ok.n1) fun r hr => ok.ack r (by rw [← ok.acks]; exact hr) s hs
theorem sh_cutAt (p : Po) (s j : Nat) (hs : s < p.shs.length) : (poCutAt p s).sh j = if s = j then shCut (p.sh s) (least p.acks s) else p.sh j := by
  unfold poCutAt Po.sh
  rw [getD_setN]
  by_cases h : s = j
  · rw [if_pos ⟨h, by omega⟩, if_pos h]
  · rw [if_neg (by omega), if_neg h]
theorem cutAt_same (ok : PoOk N W p) (s : Nat) (hs : s < N) : poCutAt p s = p := by
  have h1 := ok.cut s hs
  have h2 : shCut (p.sh s) (Go.Proofs.Ytbcpabfemejlgaa.least p.acks s) = p.sh s := by unfold shCut; rw [if_pos (by omega)]
  unfold poCutAt
  rw [h2]
  show (⟨setN p.shs s (p.shs.getD s sh0), p.acks⟩ : Po) = p
  rw [setN_same]
theorem cutTo_acks (p : Po) : ∀ k, (poCutTo p k).acks = p.acks
  | 0 => rfl
  | k + 1 => cutTo_acks p k
theorem cutTo_shs (p : Po) : ∀ k, (poCutTo p k).shs.length = p.shs.length
  | 0 => rfl
  | k + 1 => by show (setN _ _ _).length = _; rw [setN_length, cutTo_shs p k]
theorem sh_cutTo (p : Po) : ∀ k, k ≤ p.shs.length → ∀ j, (poCutTo p k).sh j = if j < k then shCut (p.sh j) (least p.acks j) else p.sh j
  | 0, _, j => by rw [if_neg (by omega)]; rfl
  | k + 1, hk, j => by
    show (poCutAt (poCutTo p k) k).sh j = _
    rw [sh_cutAt _ _ _ (by rw [cutTo_shs]; omega), cutTo_acks, sh_cutTo p k (by omega), sh_cutTo p k (by omega)]
    rcases Nat.lt_trichotomy j k with h | h | h
    · rw [if_neg (by omega), if_pos h, if_pos (by omega)]
    · subst h
      rw [if_pos rfl, if_neg (by omega), if_pos (by omega)]
    · rw [if_neg (by omega), if_neg (by omega), if_neg (by omega)]
theorem cutTo_same (ok : PoOk N W p) : ∀ k, k ≤ N → poCutTo p k = p
  | 0, _ => rfl
  | k + 1, hk => by
    show poCutAt (poCutTo p k) k = p
    rw [cutTo_same ok k (by omega), cutAt_same ok k (by omega)]
theorem ack_ok {p : Po} {c : Clk} (ok : PoOk N W p) (hc : ∀ i, i < 5 → 0 ≤ c.get i ∧ c.get i ≤ 1048576) (r : Nat) (hr : r < N) : ∀ j, j < N → ∀ s, s < 5 → (0 ≤ ((setN p.acks r ((p.ack r).join c)).getD j clk0).get s ∧ ((setN p.acks r ((p.ack r).join c)).getD j clk0).get s ≤ 1048576) ∧ (p.ack j).get s ≤ ((setN p.acks r ((p.ack r).join c)).getD j clk0).get s := by
  intro j hj s hs
  have h1 := ok.ack j hj s hs
  rw [getD_setN]
  split
  · rename_i h
    rw [Clk.get_join _ _ _ hs, h.1]
    have := hc s hs
    omega
  · exact ⟨h1, Int.le_refl _⟩
/-- From one post to another one nothing got less. -/
structure PoLe (N : Nat) (p q : Po) : Prop where
  len : ∀ s, s < N → (p.sh s).len ≤ (q.sh s).len
  base : ∀ s, s < N → (p.sh s).base ≤ (q.sh s).base
  ack : ∀ r, r < N → ∀ s, s < 5 → (p.ack r).get s ≤ (q.ack r).get s
theorem PoLe.refl (N : Nat) (p : Po) : PoLe N p p := ⟨fun _ _ => Int.le_refl _, fun _ _ => Int.le_refl _, fun _ _ _ _ => Int.le_refl _⟩
theorem PoLe.trans {p q o : Po} (h : PoLe N p q) (k : PoLe N q o) : PoLe N p o := ⟨fun s hs => Int.le_trans (h.len s hs) (k.len s hs), fun s hs => Int.le_trans (h.base s hs) (k.base s hs), fun r hr s hs => Int.le_trans (h.ack r hr s hs) (k.ack r hr s hs)⟩
theorem poIs_iff (ok : PoOk N W p) (r : Int) : poIs p r = true ↔ 0 ≤ r ∧ r < N := by unfold poIs; rw [ok.shs]; simp
theorem shPut_err {W : Int} {s : Sh} {l : List Ev} (h : (shPut W s l).2 ≠ 0) : (shPut W s l).1 = s := by
  unfold shPut at *
  split
  · rfl
  · rename_i h1
    split
    · rfl
    · rename_i h2
      split
      · rfl
      · rename_i h3
        rw [if_neg h1, if_neg h2, if_neg h3] at h
        exact absurd rfl h
theorem push_ok (ok : PoOk N W p) (r : Int) (l : List Ev) (hl : ∀ e ∈ l, e.n ≤ 1048576) : PoOk N W (poPush W p r l).1 ∧ PoLe N p (poPush W p r l).1 := by
  unfold poPush
  split
  · exact ⟨ok, PoLe.refl _ _⟩
  · rename_i h1
    have hr : 0 ≤ r ∧ r < N := by
      rw [← poIs_iff ok]
      cases hh : poIs p r with
      | true => rfl
      | false => rw [hh] at h1; exact absurd rfl h1
    split
    · exact ⟨ok, PoLe.refl _ _⟩
    · have hrn : r.toNat < N := by omega
      have okr := ok.sh r.toNat hrn
      have ok1 := shPut_ok okr hl
      have hln := shPut_len (W := W) (s := p.sh r.toNat) (l := l)
      generalize (shPut W (p.sh r.toNat) l).1 = s1 at *
      have hq : ∀ j, ({ p with shs := setN p.shs r.toNat s1 } : Po).sh j = if r.toNat = j then s1 else p.sh j := fun j => by
        show (setN p.shs r.toNat s1).getD j sh0 = _
        rw [getD_setN]
        by_cases hj : r.toNat = j
        · rw [if_pos ⟨hj, by rw [ok.shs]; omega⟩, if_pos hj]
        · rw [if_neg (by omega), if_neg hj]; rfl
      have hc : ∀ j, (poCutAt { p with shs := setN p.shs r.toNat s1 } r.toNat).sh j = if r.toNat = j then shCut s1 (Go.Proofs.Ytbcpabfemejlgaa.least p.acks r.toNat) else p.sh j := fun j => by
        rw [sh_cutAt _ _ _ (by show _ < (setN _ _ _).length; rw [setN_length, ok.shs]; exact hrn), hq, hq, if_pos rfl]
        by_cases hj : r.toNat = j
        · rw [if_pos hj, if_pos hj]
        · rw [if_neg hj, if_neg hj, if_neg hj]
      have hll := ok.least r.toNat (by have := ok.n5; omega)
      have hb1 : s1.base ≤ s1.len := by show s1.base ≤ s1.base + (s1.l.length : Nat); omega
      have hlen := shCut_len s1 (Go.Proofs.Ytbcpabfemejlgaa.least p.acks r.toNat) ok1.base
      have hbase := shCut_base s1 (Go.Proofs.Ytbcpabfemejlgaa.least p.acks r.toNat) hb1
      have hcut := ok.cut r.toNat hrn
      refine ⟨⟨ok.n1, ok.n5, ok.w1, ok.w4, by show (setN _ _ _).length = N; rw [setN_length]; show (setN _ _ _).length = N; rw [setN_length]; exact ok.shs, ok.acks, fun s hs => ?_, ok.ack, fun s hs => ?_⟩, ⟨fun s hs => ?_, fun s hs => ?_, fun _ _ _ _ => Int.le_refl _⟩⟩
      · rw [hc]
        split
        · exact shCut_ok _ ok1
        · exact ok.sh s hs
      · rw [hc]
        show _ = min (Go.Proofs.Ytbcpabfemejlgaa.least p.acks s) _
        split
        · rename_i hj
          subst hj
          rw [hbase, hlen]; omega
        · exact ok.cut s hs
      · rw [hc]
        split
        · rename_i hj
          subst hj
          rw [hlen]; exact hln.1
        · exact Int.le_refl _
      · rw [hc]
        split
        · rename_i hj
          subst hj
          rw [hbase]; omega
        · exact Int.le_refl _
theorem shPut_grow {W : Int} {s : Sh} {l : List Ev} : (shPut W s l).1 = s ∨ s.len < (shPut W s l).1.len := by
  unfold shPut
  split
  · exact .inl rfl
  · split
    · exact .inl rfl
    · rename_i h
      split
      · exact .inl rfl
      · right
        show s.base + (s.l.length : Nat) < s.base + ((s.l ++ above s.len l).length : Nat)
        rw [List.length_append]
        have := List.length_pos_iff.2 h
        omega
/-- What is pushed and is there already changes nothing. -/
theorem push_same (ok : PoOk N W p) (r : Int) (l : List Ev) (h0 : (poPush W p r l).2.2 = 0) (hn : ¬ (p.sh r.toNat).len < (poPush W p r l).2.1) : (poPush W p r l).1 = p := by
  unfold poPush at *
  split at h0
  · cases h0
  · rename_i h1
    have hr : 0 ≤ r ∧ r < N := by
      rw [← poIs_iff ok]
      cases hh : poIs p r with
      | true => rfl
      | false => rw [hh] at h1; exact absurd rfl h1
    have hrn : r.toNat < N := by omega
    rw [if_neg h1] at hn ⊢
    have hgr := shPut_grow (W := W) (s := p.sh r.toNat) (l := l)
    have hbs := (shPut_len (W := W) (s := p.sh r.toNat) (l := l)).2
    generalize shPut W (p.sh r.toNat) l = q at *
    obtain ⟨s1, cd⟩ := q
    split at h0
    · rename_i h2; exact absurd h0 h2
    · rename_i h2
      rw [if_neg h2] at hn ⊢
      have okr := ok.sh r.toNat hrn
      have hs : s1 = p.sh r.toNat := by
        rcases hgr with hgr | hgr
        · exact hgr
        · exfalso
          refine hn ?_
          have e1 : ({ p with shs := setN p.shs r.toNat s1 } : Po).sh r.toNat = s1 := by
            show (setN p.shs r.toNat _).getD r.toNat sh0 = _
            rw [getD_setN, if_pos ⟨rfl, by rw [ok.shs]; exact hrn⟩]
          have e2 := sh_cutAt { p with shs := setN p.shs r.toNat s1 } r.toNat r.toNat (by show _ < (setN _ _ _).length; rw [setN_length, ok.shs]; exact hrn)
          rw [if_pos rfl, e1] at e2
          show _ < ((poCutAt { p with shs := setN p.shs r.toNat s1 } r.toNat).sh r.toNat).len
          rw [e2, shCut_len _ _ (by have := okr.base; have h : s1.base = _ := hbs; omega)]
          exact hgr
      subst hs
      have e2 : ({ p with shs := setN p.shs r.toNat (p.sh r.toNat) } : Po) = p := by
        show (⟨setN p.shs r.toNat (p.shs.getD r.toNat sh0), p.acks⟩ : Po) = p
        rw [setN_same]
      show poCutAt { p with shs := setN p.shs r.toNat (p.sh r.toNat) } r.toNat = p
      rw [e2, cutAt_same ok _ hrn]
theorem poAck_ok (ok : PoOk N W p) (r : Int) (c : Clk) (hcl : ∀ i, i < 5 → 0 ≤ c.get i ∧ c.get i ≤ 1048576) : PoOk N W (poAck p r c).1 ∧ PoLe N p (poAck p r c).1 := by
  unfold poAck
  split
  · exact ⟨ok, PoLe.refl _ _⟩
  · rename_i h1
    have hr : 0 ≤ r ∧ r < N := by rw [← poIs_iff ok]; simpa using h1
    have hrn : r.toNat < N := by omega
    have ha := ack_ok ok hcl r.toNat hrn
    have hlm : ∀ s, s < 5 → least p.acks s ≤ least (setN p.acks r.toNat ((p.ack r.toNat).join c)) s := fun s hs =>
      least_mono _ _ s (setN_length _ _ _).symm (by rw [ok.acks]; exact ok.n1) fun j hj => (ha j (by rw [← ok.acks]; exact hj) s hs).2
    have hli : ∀ s, s < 5 → 0 ≤ least (setN p.acks r.toNat ((p.ack r.toNat).join c)) s ∧ least (setN p.acks r.toNat ((p.ack r.toNat).join c)) s ≤ 1048576 := fun s hs =>
      least_in _ _ _ _ (by rw [setN_length, ok.acks]; exact ok.n1) fun j hj => (ha j (by rw [setN_length, ok.acks] at hj; exact hj) s hs).1
    have hsh := fun j => sh_cutTo { p with acks := setN p.acks r.toNat ((p.ack r.toNat).join c) } p.shs.length (Nat.le_refl _) j
    have hac := cutTo_acks { p with acks := setN p.acks r.toNat ((p.ack r.toNat).join c) } p.shs.length
    have hsl := cutTo_shs { p with acks := setN p.acks r.toNat ((p.ack r.toNat).join c) } p.shs.length
    have hackn : ∀ j, (poCutTo { p with acks := setN p.acks r.toNat ((p.ack r.toNat).join c) } p.shs.length).ack j = (setN p.acks r.toNat ((p.ack r.toNat).join c)).getD j clk0 := fun j => congrArg (fun l => List.getD l j clk0) hac
    generalize poCutTo { p with acks := setN p.acks r.toNat ((p.ack r.toNat).join c) } p.shs.length = q at *
    have hn5 := ok.n5
    have hk : ∀ j, j < N → (p.sh j).base ≤ (p.sh j).len := fun j hj => by show (p.sh j).base ≤ (p.sh j).base + ((p.sh j).l.length : Nat); omega
    have hq : ∀ j, j < N → q.sh j = shCut (p.sh j) (least (setN p.acks r.toNat ((p.ack r.toNat).join c)) j) := fun j hj => by
      rw [hsh, if_pos (by rw [ok.shs]; exact hj)]; rfl
    refine ⟨⟨ok.n1, ok.n5, ok.w1, ok.w4, by rw [hsl]; exact ok.shs, by rw [hac]; show (setN _ _ _).length = N; rw [setN_length, ok.acks], fun s hs => ?_, fun j hj s hs => ?_, fun s hs => ?_⟩, ⟨fun s hs => ?_, fun s hs => ?_, fun j hj s hs => ?_⟩⟩
    · rw [hq s hs]; exact shCut_ok _ (ok.sh s hs)
    · rw [hackn]; exact (ha j hj s hs).1
    · rw [hq s hs, hac, shCut_len _ _ (ok.sh s hs).base, shCut_base _ _ (hk s hs)]
      have h1 := ok.cut s hs
      have h2 := hlm s (by omega)
      show _ = min (least (setN p.acks r.toNat ((p.ack r.toNat).join c)) s) _
      omega
    · rw [hq s hs, shCut_len _ _ (ok.sh s hs).base]; exact Int.le_refl _
    · rw [hq s hs, shCut_base _ _ (hk s hs)]; omega
    · rw [hackn]; exact (ha j hj s hs).2
theorem poAck_same (ok : PoOk N W p) (r : Int) (c : Clk) (h : (poAck p r c).1.ack r.toNat = p.ack r.toNat) : (poAck p r c).1 = p := by
  unfold poAck at *
  split at h
  · rename_i h1; rw [if_pos h1]
  · rename_i h1
    rw [if_neg h1]
    have hr : 0 ≤ r ∧ r < N := by rw [← poIs_iff ok]; simpa using h1
    have hrn : r.toNat < N := by omega
    have hj : (p.ack r.toNat).join c = p.ack r.toNat := by
      have h2 := cutTo_acks { p with acks := setN p.acks r.toNat ((p.ack r.toNat).join c) } p.shs.length
      have h3 : (poCutTo { p with acks := setN p.acks r.toNat ((p.ack r.toNat).join c) } p.shs.length).ack r.toNat = (p.ack r.toNat).join c := by
        refine (congrArg (fun l => List.getD l r.toNat clk0) h2).trans ?_
        show (setN p.acks r.toNat _).getD r.toNat clk0 = _
        rw [getD_setN, if_pos ⟨rfl, by rw [ok.acks]; exact hrn⟩]
      exact h3.symm.trans h
    have e : ({ p with acks := setN p.acks r.toNat ((p.ack r.toNat).join c) } : Po) = p := by
      rw [hj]
      show (⟨p.shs, setN p.acks r.toNat (p.acks.getD r.toNat clk0)⟩ : Po) = p
      rw [setN_same]
    show poCutTo { p with acks := setN p.acks r.toNat ((p.ack r.toNat).join c) } p.shs.length = p
    rw [e, cutTo_same ok _ (by rw [ok.shs]; exact Nat.le_refl _)]
theorem foldl_same (s : Nat) : ∀ n, (List.replicate n clk0).foldl (fun m a => min m (a.get s)) 0 = 0
  | 0 => rfl
  | n + 1 => by
    rw [List.replicate_succ, List.foldl_cons, clk0_in]
    exact foldl_same s n
theorem poNew_ok (h1 : 1 ≤ N) (h5 : N ≤ 5) (w1 : 1 ≤ W) (w4 : W ≤ 4) : PoOk N W (poNew N) := by
  have hs : ∀ s, (poNew N).sh s = sh0 := fun s => by
    show (List.replicate N sh0).getD s sh0 = sh0
    simp only [List.getD, List.getElem?_replicate]
    split <;> rfl
  have ha : ∀ s, (poNew N).ack s = clk0 := fun s => by
    show (List.replicate N clk0).getD s clk0 = clk0
    simp only [List.getD, List.getElem?_replicate]
    split <;> rfl
  refine ⟨h1, h5, w1, w4, List.length_replicate, List.length_replicate, fun s _ => ?_, fun r _ s _ => ?_, fun s _ => ?_⟩
  · rw [hs]; exact ⟨Int.le_refl 0, by show (0 : Int) ≤ W; omega, by decide, fun i h => absurd h (Nat.not_lt_zero i)⟩
  · rw [ha, clk0_in]; decide
  · rw [hs]
    have : least (poNew N).acks s = 0 := by
      show (List.replicate N clk0).foldl _ (((List.replicate N clk0).getD 0 clk0).get s) = 0
      have e : (List.replicate N clk0).getD 0 clk0 = clk0 := ha 0
      rw [e, clk0_in]
      exact foldl_same s N
    rw [this]; rfl
end
end Go.Proofs.Ytbcpabfemejlgaa
/- The walk's own small logic, ninth part: slices built of structs. -/
namespace Go.Proofs.Ytbcpabfemejlgaa
namespace K
/-! slices built of structs -/
def zrep (z : List Value) : Nat → List Value
  | 0 => []
  | n + 1 => z ++ zrep z n
theorem zrep_length (z : List Value) : ∀ n, (zrep z n).length = n * z.length
  | 0 => by simp [zrep]
  | n + 1 => by rw [zrep, List.length_append, zrep_length z n, Nat.add_mul]; omega
theorem zrep_get (z : List Value) : ∀ n i, i < n * z.length → (zrep z n)[i]? = z[i % z.length]?
  | 0, i, h => by simp at h
  | n + 1, i, h => by
    rw [zrep]
    by_cases hi : i < z.length
    · rw [List.getElem?_append_left hi, Nat.mod_eq_of_lt hi]
    · rw [List.getElem?_append_right (by omega), zrep_get z n (i - z.length) (by rw [Nat.add_mul] at h; omega)]
      congr 1
      rw [← Nat.mod_eq_sub_mod (by omega)]
theorem zrep_eq (z : List Value) (n : Nat) : (Array.range (n * z.length)).map (fun i => z.toArray[i % z.toArray.size]!) = (zrep z n).toArray := by
  apply Array.ext'
  apply List.ext_getElem?
  intro i
  by_cases hi : i < n * z.length
  · have hz : 0 < z.length := by
      rcases Nat.eq_zero_or_pos z.length with h0 | h0
      · rw [h0] at hi; simp at hi
      · exact h0
    have hm : i % z.length < z.length := Nat.mod_lt _ hz
    have h1 := zrep_get z n i hi
    simp [Array.toList_map, Array.toList_range, hi, h1, hm]
  · have h1 : (zrep z n).length ≤ i := by rw [zrep_length]; omega
    simp [Array.toList_map, Array.toList_range, hi, List.getElem?_eq_none h1]
section
variable {P : Program} {e : Env} {w : World} {d : Option Nat} {ty : Nat} {pos : String} {af : Array Edge} {g : Option (Nat × Bool)} {K : Value → World → Prop}
variable {w0 : World} {F0 : Nat → Prop} {L : List It}
theorem o_bg {t el sz by_ n : Nat} {parts : Array (Nat × Operand)} {vs : List (Nat × Value)} {cs z : List Value} [ht : TSl P t el] [he : El P el sz by_ z] (m : Mem w0 F0 w L) (hv' : BdV e parts.toList vs) (hf : fillL (fun i => some (i * sz, sz)) (zrep z n) vs = some cs) (hl : cs.length = n * sz) (hn : 0 < n) (hb : n * sz ≤ 16777216) (hm : n ≤ maxLen)
    (hK : ∀ a c w', Mem w0 F0 w' (L ++ [own el sz a n c cs]) → K (.slice a n c) w') : OwpE P ⟨d, .buildSlice t n parts, ty, pos, af, g⟩ e w K := by
  obtain ⟨i, zv, hi, hsz, _, hz, hzc, hzl, h0⟩ := he.h
  have hv := hv'.eq
  have h1 : (parts.map fun (i, x) => (i, ev e x)).toList = vs := by rw [← hv]; simp
  have h2 := fill_eq (pl := fun i => some (i * sz, sz)) vs (zrep z n) cs hf
  have h3 : (Array.range (n * sz)).map (fun i => z.toArray[i % z.toArray.size]!) = (zrep z n).toArray := by rw [← hzl]; exact zrep_eq z n
  have h4 : ¬ (n * sz > 2 ^ 24) := by omega
  have h5 : ¬ (n * sz = 0) := by have := Nat.mul_pos hn h0; omega
  unfold OwpE
  simp only [execOp, Instr.buildSlice, Sem.run_bind, run_underlying ht.h, Result.andThen_ok, sizeOf, typeInfo, run_program, hi, Sem.run_pure, hsz, h4, if_false, h5, zeroValue, hz, hzc, h3, h1, h2, newRow, run_newObj]
  exact hK _ _ _ (own_made (n := n) (cs := cs) m hl hm)
end
/-- What holds behind a piece of code that ends a block. -/
theorem c_mid1 {P : Program} {N : Nat} {Rt : Env → World → Prop} {Q : Post} {e : Env} {w : World} {x : Code} {id : Nat} {K : Env → World → Prop} (M : Env → World → Prop) (h : wpE P N Rt x (thn M (blk id (thn K Q))) e w) (k : ∀ e w, M e w → K e w) : wpE P N Rt x (blk id (thn K Q)) e w :=
  c_mono h fun x e w hx => by cases x <;> first | exact k e w hx | exact hx
theorem c_mid2 {P : Program} {N : Nat} {Rt : Env → World → Prop} {Q : Post} {e : Env} {w : World} {x : Code} {id id' : Nat} {K : Env → World → Prop} (M : Env → World → Prop) (h : wpE P N Rt x (thn M (blk id (blk id' (thn K Q)))) e w) (k : ∀ e w, M e w → K e w) : wpE P N Rt x (blk id (blk id' (thn K Q))) e w :=
  c_mono h fun x e w hx => by cases x <;> first | exact k e w hx | exact hx
end K
end Go.Proofs.Ytbcpabfemejlgaa
/- The walk's own small logic, tenth part: jumps back; results in memory; items joined. -/
namespace Go.Proofs.Ytbcpabfemejlgaa
namespace K

/-- As Q; by a jump to l: J. -/
def jmp (l : Nat) (J : Env → World → Prop) (Q : Post) : Post
  | .goto l', e, w => l' = l ∧ J e w
  | x, e, w => Q x e w
section
variable {P : Program} {N : Nat} {Rt : Env → World → Prop} {Q : Post} {e : Env} {w : World}
theorem j_g {l : Nat} {J : Env → World → Prop} (h : J e w) : jmp l J Q (.goto l) e w := ⟨rfl, h⟩
theorem j_n {l : Nat} {J : Env → World → Prop} (h : Q .normal e w) : jmp l J Q .normal e w := h
theorem j_x {l id : Nat} {J : Env → World → Prop} (h : Q (.exit id) e w) : jmp l J Q (.exit id) e w := h
theorem c_scope {c X : Code} {l : Nat} (hf : findLabel c l = some (.seq .skip X)) (I : Nat → Env → World → Prop)
    (pass : ∀ k e w, I k e w → wpE P N Rt X (jmp l (fun e' w' => ∃ k', k' < k ∧ I k' e' w') Q) e w)
    (first : (∀ k e w, I k e w → wpE P N Rt X (jmp l (fun e' w' => ∃ k', I k' e' w') Q) e w) → wpE P N Rt c (jmp l (fun e' w' => ∃ k', I k' e' w') Q) e w) : wpE P N Rt (.scope c) Q e w := by
  have first := first (fun k e w hI => c_mono (pass k e w hI) fun x e w hx => by
    cases x with
    | goto l' => exact ⟨hx.1, hx.2.elim fun k' h => ⟨k', h.2⟩⟩
    | _ => exact hx)
  intro a ha b k cs
  have hg : gotoIn l (.inScope c :: k) = some (.code (.seq .skip X) :: .inScope c :: k) := by simp [gotoIn, hf]
  have key : ∀ n a e w, Agr N a e → I n e w → ∃ x a' w', (∃ e', Agr N a' e' ∧ endE Rt Q x e' w') ∧ Arrives P (lone (b.at a (.code (.seq .skip X) :: .inScope c :: k)) cs w) b k cs x a' w' := by
    intro n
    induction n using Nat.strongRecOn with
    | _ n ih =>
      intro a e w ha hI
      have hp : wpE P N Rt (.seq .skip X) (jmp l (fun e' w' => ∃ k', k' < n ∧ I k' e' w') Q) e w := c_seq (c_skip (t_n (pass n e w hI)))
      obtain ⟨x, a₁, w₁, ⟨e₁, ha₁, hq⟩, harr⟩ := hp a ha b (.inScope c :: k) cs
      cases x with
      | normal => exact ⟨.normal, a₁, w₁, ⟨e₁, ha₁, hq⟩, Steps.trans harr (.one step_inScope)⟩
      | exit id => exact ⟨.exit id, a₁, w₁, ⟨e₁, ha₁, hq⟩, fun k' hk => harr k' (by simp [exitTo, hk])⟩
      | goto l' =>
        obtain ⟨rfl, k', hlt, hI'⟩ := hq
        obtain ⟨x₂, a₂, w₂, hq₂, harr₂⟩ := ih _ hlt a₁ e₁ w₁ ha₁ hI'
        exact ⟨x₂, a₂, w₂, hq₂, .of_steps (harr _ hg) harr₂⟩
      | ret => exact ⟨.ret, a₁, w₁, ⟨e₁, ha₁, hq⟩, harr⟩
      | panic ch => exact ⟨.panic ch, a₁, w₁, ⟨e₁, ha₁, hq⟩, harr⟩
      | outgrown => exact ⟨.outgrown, a₁, w₁, ⟨e₁, ha₁, hq⟩, harr⟩
  obtain ⟨x, a₁, w₁, ⟨e₁, ha₁, hq⟩, harr⟩ := first a ha b (.inScope c :: k) cs
  cases x with
  | normal => exact ⟨.normal, a₁, w₁, ⟨e₁, ha₁, hq⟩, .head step_scope (Steps.trans harr (.one step_inScope))⟩
  | exit id => exact ⟨.exit id, a₁, w₁, ⟨e₁, ha₁, hq⟩, fun k' hk => .head step_scope (harr k' (by simp [exitTo, hk]))⟩
  | goto l' =>
    obtain ⟨rfl, n, hI'⟩ := hq
    obtain ⟨x₂, a₂, w₂, hq₂, harr₂⟩ := key n a₁ e₁ w₁ ha₁ hI'
    exact ⟨x₂, a₂, w₂, hq₂, .of_steps (.head step_scope (harr _ hg)) harr₂⟩
  | ret => exact ⟨.ret, a₁, w₁, ⟨e₁, ha₁, hq⟩, .of_steps (.one step_scope) harr⟩
  | panic ch => exact ⟨.panic ch, a₁, w₁, ⟨e₁, ha₁, hq⟩, .of_steps (.one step_scope) harr⟩
  | outgrown => exact ⟨.outgrown, a₁, w₁, ⟨e₁, ha₁, hq⟩, .of_steps (.one step_scope) harr⟩
end
section
variable {P : Program} {fn : Func} {R : Value → World → Prop} {e : Env} {w : World}
/-- Two results in memory: a struct, a value of one cell. -/
theorem retcs {t t' T T' S S' b b' n : Nat} {cs : List Value} {v : Value} [h' : Ag P T n] [h'' : Sc P S] (h : fn.results.toList = [.cell t T, .cell t' S]) (hv : e t = .pointer (some ⟨b, 0, none⟩)) (hb : w.heap[b]? = some (.cells cs.toArray T' (0, 0))) (hn : cs.length = n)
    (hv' : e t' = .pointer (some ⟨b', 0, none⟩)) (hb' : w.heap[b']? = some (.cells [v].toArray S' (0, 0))) (hR : R (.tuple #[.agg cs.toArray, v]) w) : retE P fn R e w :=
  ⟨[.agg cs.toArray, v], by rw [h]; exact ⟨_, _, [v], hv, lv_row hb hn, rfl, _, _, [], hv', lv_one hb', rfl, rfl⟩, hR⟩
theorem retctt {t t' t'' T T' b n : Nat} {cs : List Value} {v v' : Value} [h' : Ag P T n] (h : fn.results.toList = [.cell t T, .tmp t', .tmp t'']) (hv : e t = .pointer (some ⟨b, 0, none⟩)) (hb : w.heap[b]? = some (.cells cs.toArray T' (0, 0))) (hn : cs.length = n)
    (hv' : e t' = v) (hv'' : e t'' = v') (hR : R (.tuple #[.agg cs.toArray, v, v']) w) : retE P fn R e w :=
  ⟨[.agg cs.toArray, v, v'], by rw [h]; exact ⟨_, _, [v, v'], hv, lv_row hb hn, rfl, [v'], by rw [hv'], [], by rw [hv''], rfl⟩, hR⟩
end

/-! items joined -/
def triv : It where
  foot := fun _ => False
  holds := fun _ => True
  keep := fun _ _ _ _ => trivial
  live := fun _ _ _ h => h.elim
section
variable {w0 w w' : World} {F0 : Nat → Prop} {L L' : List It}
/-- Two items become one; the other's place is left empty. -/
theorem Mem.fuse (m : Mem w0 F0 w L) {I I' J : It} (k k' : Nat) (hk : nth L k = some I) (hk' : nth L k' = some I') (hkk : k ≠ k') (hJ : J.holds w) (hf : ∀ b, J.foot b → I.foot b ∨ I'.foot b) : Mem w0 F0 w (setN (setN L k J) k' triv) :=
  m.turn2 k k' hk hk' hkk (Chg.refl _ w) hJ trivial (fun b hb => .inl (hf b hb)) (fun _ h => h.elim) (fun _ _ h => h)
theorem nth_app {α : Type} (l m : List α) (x : α) (i : Nat) (h : nth (l ++ m) i = some x) : (i < l.length ∧ nth l i = some x) ∨ (l.length ≤ i ∧ nth m (i - l.length) = some x) := by
  rw [nth_eq] at h
  by_cases hk : i < l.length
  · rw [List.getElem?_append_left hk] at h
    exact .inl ⟨hk, by rw [nth_eq]; exact h⟩
  · rw [List.getElem?_append_right (by omega)] at h
    exact .inr ⟨by omega, by rw [nth_eq]; exact h⟩
/-- What a call that turned nothing old has left. -/
theorem Mem.join (m : Mem w0 F0 w L) (n : Mem w No w' L') : Mem w0 F0 w' (L ++ L') := by
  have m' := m.frame n.chg
  have hnew : ∀ i x, nth L' i = some x → ∀ b, x.foot b → w.heap.size ≤ b := fun i x hx b hb => (n.mine i x hx b hb).resolve_left (fun h => h)
  refine ⟨m'.chg, fun i x hx => ?_, fun i x hx => ?_, fun i j x y hx hy hne b hb hb' => ?_⟩
  · rcases nth_app L L' x i hx with ⟨_, hx⟩ | ⟨_, hx⟩
    · exact m'.ok i x hx
    · exact n.ok _ x hx
  · rcases nth_app L L' x i hx with ⟨_, hx⟩ | ⟨_, hx⟩
    · exact m'.mine i x hx
    · exact fun b hb => .inr (Nat.le_trans m.chg.size (hnew _ x hx b hb))
  · rcases nth_app L L' x i hx with ⟨hi, hx⟩ | ⟨hi, hx⟩ <;> rcases nth_app L L' y j hy with ⟨hj, hy⟩ | ⟨hj, hy⟩
    · exact m.dis i j x y hx hy hne b hb hb'
    · have := x.live w b (m.ok i x hx) hb
      have := hnew _ y hy b hb'
      omega
    · have := y.live w b (m.ok j y hy) hb'
      have := hnew _ x hx b hb
      omega
    · exact n.dis _ _ x y hx hy (by omega) b hb hb'
/-- What is new since w, of a Mem that began at w. -/
theorem Mem.rest (m : Mem w0 No w L) : Mem w0 No w L := m
end
end K
end Go.Proofs.Ytbcpabfemejlgaa
/- The walk's own small logic, thirteenth part: maps whose keys are integers. -/
namespace Go.Proofs.Ytbcpabfemejlgaa
namespace K
def mp (b : Nat) (es : List MapEntry) (clock : Nat) : It where
  foot := fun k => k = b
  holds := fun w => w.heap[b]? = some (.map es.toArray clock)
  keep := fun w w' h hk => (hk b rfl).trans h
  live := fun w k h hk => by subst hk; exact (Array.getElem?_eq_some_iff.1 h).1
section
variable {P : Program} {e : Env} {w : World} {d : Option Nat} {ty : Nat} {pos : String} {af : Array Edge} {g : Option (Nat × Bool)} {K : Value → World → Prop}
variable {w0 : World} {F0 : Nat → Prop} {L : List It}
theorem o_mkm {t : Nat} (m : Mem w0 F0 w L) (hK : ∀ b w', Mem w0 F0 w' (L ++ [mp b [] 0]) → K (.map (some b)) w') : OwpE P ⟨d, .makeMap t none, ty, pos, af, g⟩ e w K := by
  have hr : (Instr.makeMap t none).run P w = .ok (.map (some w.heap.size)) (w.alloc (.map #[] 0)) := rfl
  unfold OwpE
  simp only [execOp, Option.map_none, Sem.run_bind, hr, Result.andThen_ok, Sem.run_pure]
  exact hK _ _ (m.add (Chg.alloc No w _) (heap_alloc_new w _) (fun b hb => by cases hb; exact Nat.le_refl _))
theorem run_checkKey_int {b : Bool} {kt : Nat} {k : IntKind} {a : Int} (hk : P.underlying kt = some (.int k)) : (Instr.checkKey b 10000 kt (.int k a)).run P w = .ok () w := by
  show (Instr.checkKey b (9999 + 1) kt (.int k a)).run P w = .ok () w
  unfold Instr.checkKey
  simp only [Sem.run_bind, run_underlying hk, Result.andThen_ok, Sem.run_pure]
theorem run_findKey_int {kt : Nat} {k : IntKind} {a : Int} {es : List MapEntry} {r : Option (Nat × Value)} (hk : P.underlying kt = some (.int k)) (hf : Instr.findNow (.int k) (.int k a) es 0 = some r) : (Instr.findKey kt (.int k a) es).run P w = .ok r w := by
  simp [Instr.findKey, run_underlying hk, hf]
/-- A key that is not there yet. -/
theorem o_insi {t kt et b clock : Nat} {kk : IntKind} {a : Int} {x y z : Operand} {v : Value} {es : List MapEntry} (m : Mem w0 F0 w L) (k : Nat) (hk : nth L k = some (mp b es clock)) (ht : P.underlying t = some (.map kt et)) (hkt : P.underlying kt = some (.int kk))
    (hx : ev e x = .map (some b)) (hy : ev e y = .int kk a) (hz : ev e z = v) (hf : Instr.findNow (.int kk) (.int kk a) es 0 = some none)
    (hK : ∀ w', Mem w0 F0 w' (setN L k (mp b (es ++ [⟨.int kk a, v, clock⟩]) (clock + 1))) → K undef w') : OwpE P ⟨d, .insert t x y z, ty, pos, af, g⟩ e w K := by
  have hb : w.heap[b]? = some (.map es.toArray clock) := m.ok k _ hk
  have hlt : b < w.heap.size := (Array.getElem?_eq_some_iff.1 hb).1
  have hr : (Instr.mapUpdate t (.map (some b)) (.int kk a) v).run P w = .ok () { w with heap := w.heap.setIfInBounds b (.map (es ++ [({ key := .int kk a, val := v, born := clock } : MapEntry)]).toArray (clock + 1)) } := by
    have h1 := run_checkKey_int (P := P) (w := w) (b := false) (a := a) hkt
    have h2 := run_findKey_int (P := P) (w := w) hkt hf
    simp only [Instr.mapUpdate, Sem.run_bind, run_underlying ht, Result.andThen_ok, getObj, Sem.run, hb, h1, h2, setObj]
    simp
  unfold OwpE
  simp only [execOp, hx, hy, hz, Sem.run_bind, hr, Result.andThen_ok, Sem.run_pure]
  refine hK _ (m.turn k hk ⟨rfl, rfl, rfl, by simp, fun j _ hj => by simp only; rw [Array.getElem?_setIfInBounds_ne (Ne.symm hj)]⟩ ?_ (fun c hc => .inl hc))
  show (w.heap.setIfInBounds b _)[b]? = _
  simp [hlt]
def lkV (r : Option (Nat × Value)) (zv : Value) : Value := match r with | some q => q.2 | none => zv
theorem r_lki {t kt et b clock : Nat} {kk : IntKind} {a : Int} {x y : Operand} {es : List MapEntry} {r : Option (Nat × Value)} {v zv : Value} (m : Mem w0 F0 w L) (k : Nat) (hk : nth L k = some (mp b es clock)) (ht : P.underlying t = some (.map kt et)) (hkt : P.underlying kt = some (.int kk))
    (hz : (P.info? et).map (·.zero) = some (some zv)) (hx : ev e x = .map (some b)) (hy : ev e y = .int kk a) (hf : Instr.findNow (.int kk) (.int kk a) es 0 = some r) (hv : lkV r zv = v) :
    (execOp (ev e) ⟨d, .lookup t x y false, ty, pos, af, g⟩).run P w = .ok (.value v) w := by
  have hb : w.heap[b]? = some (.map es.toArray clock) := m.ok k _ hk
  have h1 := run_checkKey_int (P := P) (w := w) (b := es.toArray.isEmpty) (a := a) hkt
  have h2 := run_findKey_int (P := P) (w := w) hkt hf
  have h3 : (zeroValue et).run P w = .ok zv w := by
    cases hi : P.info? et with
    | none => rw [hi] at hz; cases hz
    | some i =>
      rw [hi] at hz
      simp only [Option.map_some, Option.some.injEq] at hz
      simp [zeroValue, typeInfo, hi, hz]
  have hr : (Instr.lookup t (.map (some b)) (.int kk a) false).run P w = .ok v w := by
    subst hv
    simp only [Instr.lookup, Sem.run_bind, run_underlying ht, Result.andThen_ok, getObj, Sem.run, hb, h1, h2, Sem.run_pure]
    cases r with
    | none => simp only [Sem.run_bind, h3, Result.andThen_ok, Sem.run_pure]; rfl
    | some q => simp only [Sem.run_bind, Result.andThen_ok, Sem.run_pure]; rfl
  simp only [execOp, hx, hy, Sem.run_bind, hr, Result.andThen_ok, Sem.run_pure]
end
end K
end Go.Proofs.Ytbcpabfemejlgaa
/- The walk's own small logic: items of items. -/
namespace Go.Proofs.Ytbcpabfemejlgaa
namespace K

/-- Items that lie apart, as one. -/
def listI (Is : List It) : It where
  foot := fun b => ∃ i x, nth Is i = some x ∧ x.foot b
  holds := fun w => (∀ i x, nth Is i = some x → x.holds w) ∧ ∀ i j x y, nth Is i = some x → nth Is j = some y → i ≠ j → ∀ b, x.foot b → ¬ y.foot b
  keep := fun w w' h hk => ⟨fun i x hx => x.keep w w' (h.1 i x hx) (fun b hb => hk b ⟨i, x, hx, hb⟩), h.2⟩
  live := fun w b h hb => by
    obtain ⟨i, x, hx, hb⟩ := hb
    exact x.live w b (h.1 i x hx) hb

section
variable {w0 w w' : World} {F0 : Nat → Prop} {L A B Ls Is : List It} {I J : It}

theorem nth_apl {α : Type} (l m : List α) (i : Nat) (x : α) (h : nth l i = some x) : nth (l ++ m) i = some x := by
  have hi := nth_lt l i x h
  rw [nth_eq] at h ⊢
  rw [List.getElem?_append_left hi]; exact h
theorem nth_apr {α : Type} (l m : List α) (i : Nat) : nth (l ++ m) (l.length + i) = nth m i := by
  rw [nth_eq, nth_eq, List.getElem?_append_right (by omega)]
  congr 1; omega
theorem Mem.closeN (m : Mem w0 F0 w (A ++ B)) : Mem w0 F0 w (listI A :: B) := by
  have hB : ∀ i x, nth B i = some x → nth (A ++ B) (A.length + i) = some x := fun i x h => by rw [nth_apr]; exact h
  refine ⟨m.chg, fun i x hx => ?_, fun i x hx b hb => ?_, fun i j x y hx hy hne b hb hb' => ?_⟩
  · cases i with
    | zero =>
      injection hx with hx; subst hx
      exact ⟨fun i x hx => m.ok i x (nth_apl A B i x hx), fun i j x y hx hy hne => m.dis i j x y (nth_apl A B i x hx) (nth_apl A B j y hy) hne⟩
    | succ i => exact m.ok _ x (hB i x hx)
  · cases i with
    | zero =>
      injection hx with hx; subst hx
      obtain ⟨j, y, hy, hb⟩ := hb
      exact m.mine j y (nth_apl A B j y hy) b hb
    | succ i => exact m.mine _ x (hB i x hx) b hb
  · cases i with
    | zero =>
      injection hx with hx; subst hx
      obtain ⟨p, z, hz, hb⟩ := hb
      cases j with
      | zero => exact hne rfl
      | succ j =>
        have := nth_lt A p z hz
        exact m.dis p (A.length + j) z y (nth_apl A B p z hz) (hB j y hy) (by omega) b hb hb'
    | succ i =>
      cases j with
      | zero =>
        injection hy with hy; subst hy
        obtain ⟨p, z, hz, hb'⟩ := hb'
        have := nth_lt A p z hz
        exact m.dis p (A.length + i) z x (nth_apl A B p z hz) (hB i x hx) (by omega) b hb' hb
      | succ j => exact m.dis _ _ x y (hB i x hx) (hB j y hy) (by omega) b hb hb'
theorem Mem.openN (m : Mem w0 F0 w (listI A :: B)) : Mem w0 F0 w (A ++ B) := by
  have h0 := m.ok 0 _ rfl
  have hm := m.mine 0 _ rfl
  refine ⟨m.chg, fun i x hx => ?_, fun i x hx b hb => ?_, fun i j x y hx hy hne b hb hb' => ?_⟩
  · rcases nth_app A B x i hx with ⟨_, h⟩ | ⟨_, h⟩
    · exact h0.1 i x h
    · exact m.ok (i - A.length + 1) x h
  · rcases nth_app A B x i hx with ⟨_, h⟩ | ⟨_, h⟩
    · exact hm b ⟨i, x, h, hb⟩
    · exact m.mine (i - A.length + 1) x h b hb
  · rcases nth_app A B x i hx with ⟨hi, h⟩ | ⟨hi, h⟩
    · rcases nth_app A B y j hy with ⟨hj, k⟩ | ⟨hj, k⟩
      · exact h0.2 i j x y h k hne b hb hb'
      · exact m.dis 0 (j - A.length + 1) (listI A) y rfl k (by omega) b ⟨i, x, h, hb⟩ hb'
    · rcases nth_app A B y j hy with ⟨hj, k⟩ | ⟨hj, k⟩
      · exact m.dis 0 (i - A.length + 1) (listI A) x rfl h (by omega) b ⟨j, y, k, hb'⟩ hb
      · exact m.dis (i - A.length + 1) (j - A.length + 1) x y h k (by omega) b hb hb'
theorem Mem.close (m : Mem w0 F0 w A) : Mem w0 F0 w [listI A] := Mem.closeN (B := []) (by rw [List.append_nil]; exact m)
theorem Mem.open (m : Mem w0 F0 w [listI A]) : Mem w0 F0 w A := by have := Mem.openN (B := []) m; rwa [List.append_nil] at this
/-- What a call made of the item that it was handed, and what is new. -/
theorem Mem.liftL (m : Mem w0 F0 w L) (k : Nat) (hk : nth L k = some I) (mm : Mem w I.foot w' (J :: Ls)) : Mem w0 F0 w' (setN L k J ++ Ls) := by
  have m1 := m.turn k hk mm.chg (mm.ok 0 J rfl) (mm.mine 0 J rfl)
  have hl : (setN L k J).length = L.length := by rw [setN_eq, List.length_set]
  have hkl := nth_lt L k I hk
  have hin : ∀ i x, nth Ls i = some x → ∀ b, x.foot b → I.foot b ∨ w.heap.size ≤ b := fun i x hx => mm.mine (i + 1) x hx
  have ap : ∀ i x j y, nth (setN L k J) i = some x → nth Ls j = some y → ∀ b, x.foot b → ¬ y.foot b := fun i x j y hx hy b hb hb' => by
    rcases nth_setN L k J x i hx with ⟨_, rfl⟩ | ⟨hne, hx⟩
    · exact mm.dis 0 (j + 1) x y rfl hy (by omega) b hb hb'
    · rcases hin j y hy b hb' with h | h
      · exact m.dis i k x I hx hk hne b hb h
      · have := x.live w b (m.ok i x hx) hb; omega
  refine ⟨m1.chg, fun i x hx => ?_, fun i x hx b hb => ?_, fun i j x y hx hy hne b hb hb' => ?_⟩
  · rcases nth_app _ _ x i hx with ⟨_, h⟩ | ⟨_, h⟩
    · exact m1.ok i x h
    · exact mm.ok (_ + 1) x h
  · rcases nth_app _ _ x i hx with ⟨_, h⟩ | ⟨_, h⟩
    · exact m1.mine i x h b hb
    · rcases hin _ x h b hb with h' | h'
      · exact m.mine k I hk b h'
      · exact .inr (Nat.le_trans m.chg.size h')
  · rcases nth_app _ _ x i hx with ⟨hi, h⟩ | ⟨hi, h⟩
    · rcases nth_app _ _ y j hy with ⟨hj, k'⟩ | ⟨hj, k'⟩
      · exact m1.dis i j x y h k' hne b hb hb'
      · exact ap _ x _ y h k' b hb hb'
    · rcases nth_app _ _ y j hy with ⟨hj, k'⟩ | ⟨hj, k'⟩
      · exact ap _ y _ x k' h b hb' hb
      · exact mm.dis (i - (setN L k J).length + 1) (j - (setN L k J).length + 1) x y h k' (by omega) b hb hb'
/-- The same of an item of items. -/
theorem Mem.liftIn (m : Mem w0 F0 w L) (k : Nat) (hk : nth L k = some (listI Is)) (r : Nat) (hr : nth Is r = some I) (mm : Mem w I.foot w' (J :: Ls)) : Mem w0 F0 w' (setN L k (listI (setN Is r J)) ++ Ls) :=
  m.liftL k hk ((Mem.one (m.ok k _ hk)).open.liftL r hr mm).closeN
theorem Mem.at (m : Mem w0 F0 w L) (k : Nat) (hk : nth L k = some (listI Is)) (r : Nat) (hr : nth Is r = some I) : I.holds w := (m.ok k _ hk).1 r I hr
theorem Mem.h (m : Mem w0 F0 w L) (k : Nat) (hk : nth L k = some I) : I.holds w := m.ok k I hk
theorem Mem.castL {L' : List It} (h : Mem w0 F0 w L) (e : L = L') : Mem w0 F0 w L' := e ▸ h
theorem Mem.chgIn (m : Mem w0 F0 w L) (k : Nat) (hk : nth L k = some I) (hc : Chg I.foot w w') : Chg F0 w0 w' :=
  m.chg.trans' hc (fun _ _ h => h) (fun b hb hI => (m.mine k I hk b hI).resolve_right (by omega))
theorem Mem.chgAt (m : Mem w0 F0 w L) (k : Nat) (hk : nth L k = some (listI Is)) (r : Nat) (hr : nth Is r = some I) (hc : Chg I.foot w w') : Chg F0 w0 w' :=
  m.chgIn k hk (hc.mono fun b hb => ⟨r, I, hr, hb⟩)
/-- What stays while an item turns. -/
def Stab (I : It) (w : World) (P : World → Prop) : Prop := ∀ w', Chg I.foot w w' → P w'
theorem Stab.now {P : World → Prop} (h : Stab I w P) : P w := h w (Chg.refl _ _)
theorem Mem.keepO (m : Mem w0 F0 w L) {k j : Nat} {T : TypeId} {sz : Nat} {a : Option Addr} {n c : Nat} {cs : List Value} (hk : nth L k = some I) (hj : nth L j = some (own T sz a n c cs)) (hkj : k ≠ j) : Stab I w (fun w' => Cells w' a cs) := fun w' hc =>
  (m.c j hj).keep hc fun ad ha hf => m.dis k j I _ hk hj hkj ad.block hf (by show a.map (·.block) = _; rw [ha]; rfl)
theorem Mem.keepR (m : Mem w0 No w L) {k : Nat} {a : Option Addr} {cs : List Value} (hk : nth L k = some I) (H : Cells w0 a cs) : Stab I w (fun w' => Cells w' a cs) := fun w' hc j v hj => by
  obtain ⟨ad, ha, hv⟩ := H j v hj
  refine ⟨ad, ha, hc.cell (m.chg.cell hv (fun h => h)) fun hf => ?_⟩
  rw [Addr.block_add] at hf
  have h1 := World.block_lt_of_cell? w0 _ hv
  rw [Addr.block_add] at h1
  rcases m.mine k I hk ad.block hf with h | h
  · exact h
  · omega
theorem Stab.in {P : World → Prop} (h : Stab (listI Is) w P) (r : Nat) (hr : nth Is r = some I) : Stab I w P := fun w' hc => h w' (hc.mono fun b hb => ⟨r, I, hr, hb⟩)
end
end K
end Go.Proofs.Ytbcpabfemejlgaa
