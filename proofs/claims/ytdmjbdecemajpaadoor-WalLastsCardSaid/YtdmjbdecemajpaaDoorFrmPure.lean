/- Plain laws of frames: what Scan tells of frames and of a beginning of another one. No program. -/
import Derived.Test.YtdmjbdecemajpaaDoorFrm2
namespace Go.Proofs.YtdmjbdecemajpaaDoor
open Go.RowKit SumP
def BL (s : ByteArray) : List UInt8 := s.data.toList
theorem BL_inj {s t : ByteArray} (h : BL s = BL t) : s = t := by
  cases s; cases t
  simp only [ByteArray.mk.injEq]
  exact Array.toList_inj.1 h
theorem BL_append (s t : ByteArray) : BL (s ++ t) = BL s ++ BL t := by simp [BL]
theorem BL_length (s : ByteArray) : (BL s).length = s.size := by simp [BL]
theorem BL_extract (s : ByteArray) (a b : Nat) : BL (s.extract a b) = ((BL s).take b).drop a := by
  simp [BL, List.extract_eq_take_drop, List.drop_take]
theorem ex_all (s : ByteArray) : s.extract 0 s.size = s := by
  apply BL_inj; rw [BL_extract, ← BL_length, List.take_length]; rfl
theorem layS_inj {n m : Nat} (hn : n < 4294967296) (hm : m < 4294967296) (h : layS n = layS m) : n = m := by
  rw [← rdN_layS n hn, h, rdN_layS m hm]
/-- the parts of a frame with anything behind -/
theorem frm_ex0 (b r : ByteArray) : (frm b ++ r).extract 0 4 = layS b.size := by
  apply BL_inj
  have h4 : (BL (layS b.size)).length = 4 := by rw [BL_length, layS_size]
  rw [BL_extract]
  simp only [frm, BL_append, List.append_assoc, List.drop_zero]
  rw [← h4, List.take_left]
theorem frm_ex4 (b r : ByteArray) : (frm b ++ r).extract 4 8 = layS (onN 0 (layS b.size ++ b)) := by
  apply BL_inj
  have h4 : (BL (layS b.size)).length = 4 := by rw [BL_length, layS_size]
  have h5 : (BL (layS (onN 0 (layS b.size ++ b)))).length = 4 := by rw [BL_length, layS_size]
  rw [BL_extract, List.drop_take]
  simp only [frm, BL_append, List.append_assoc]
  conv => lhs; rw [show (4 : Nat) = (BL (layS b.size)).length from h4.symm]
  rw [List.drop_left, h4, show 8 - 4 = 4 by rfl]
  conv => lhs; rw [show (4 : Nat) = (BL (layS (onN 0 (layS b.size ++ b)))).length from h5.symm]
  rw [List.take_left]
theorem frm_ex8 (b r : ByteArray) : (frm b ++ r).extract 8 (8 + b.size) = b := by
  apply BL_inj
  have h4 : (BL (layS b.size ++ layS (onN 0 (layS b.size ++ b)))).length = 8 := by rw [BL_length, ByteArray.size_append, layS_size, layS_size]
  rw [BL_extract, List.drop_take, show 8 + b.size - 8 = b.size by omega]
  simp only [frm]
  rw [BL_append, BL_append, List.append_assoc]
  conv => lhs; rw [show (8 : Nat) = (BL (layS b.size ++ layS (onN 0 (layS b.size ++ b)))).length from h4.symm]
  rw [List.drop_left, ← BL_length, List.take_left]
theorem fN_frm (b r : ByteArray) (hb : b.size ≤ 65536) : fN (frm b ++ r) = b.size := by
  unfold fN; rw [frm_ex0, rdN_layS _ (by omega)]
theorem fBody_frm (b r : ByteArray) (hb : b.size ≤ 65536) : fBody (frm b ++ r) = b := by
  unfold fBody; rw [fN_frm b r hb, frm_ex8]
theorem fOk_frm (b r : ByteArray) (hb : b.size ≤ 65536) : fOk (frm b ++ r) = true := by
  unfold fOk
  rw [fN_frm b r hb, fBody_frm b r hb, frm_ex4, frm_ex0, rdN_layS _ (onN_lt _ _), ByteArray.size_append, frm_size]
  simp; omega
/-- a frame is just the frame of its body -/
theorem frm_of_ok {s : ByteArray} (h : fOk s = true) : s.extract 0 (8 + fN s) = frm (fBody s) := by
  obtain ⟨h8, h1, h2⟩ := fOk_fits h
  have hs : (fBody s).size = fN s := by unfold fBody; rw [ex_size] <;> omega
  have h3 : rdN (s.extract 4 8) = onN 0 (s.extract 0 4 ++ fBody s) := by
    unfold fOk at h; simp only [Bool.and_eq_true, beq_iff_eq] at h; exact h.2
  have e0 : layS (fBody s).size = s.extract 0 4 := by rw [hs]; exact layS_rdN _ (by rw [ex_size] <;> omega)
  have e1 : layS (onN 0 (layS (fBody s).size ++ fBody s)) = s.extract 4 8 := by rw [e0, ← h3]; exact layS_rdN _ (by rw [ex_size] <;> omega)
  unfold frm
  rw [e1, e0]
  apply BL_inj
  rw [BL_append, BL_append]
  unfold fBody
  rw [BL_extract, BL_extract, BL_extract, BL_extract, List.drop_zero, List.drop_zero, List.drop_take, List.drop_take]
  have : (BL s).take (8 + fN s) = (BL s).take 4 ++ (((BL s).drop 4).take 4 ++ ((BL s).drop 8).take (fN s)) := by
    rw [show 8 + fN s = 4 + (4 + fN s) by omega, List.take_add, List.take_add, List.drop_drop]
  rw [this, List.append_assoc, show 8 - 4 = 4 from rfl, show 8 + fN s - 8 = fN s by omega]
/-- the bytes from at on -/
def fromAt (s : ByteArray) (i : Nat) : ByteArray := s.extract i s.size
theorem fromAt_size (s : ByteArray) (i : Nat) (h : i ≤ s.size) : (fromAt s i).size = s.size - i := by unfold fromAt; rw [ex_size _ _ _ h (Nat.le_refl _)]
/-- frame by frame -/
def scanG (s : ByteArray) : Nat → Nat → List ByteArray × Nat
  | 0, i => ([], i)
  | k + 1, i => if fOk (fromAt s i) then (fBody (fromAt s i) :: (scanG s k (i + 8 + fN (fromAt s i))).1, (scanG s k (i + 8 + fN (fromAt s i))).2) else ([], i)
def scan (s : ByteArray) : List ByteArray × Nat := scanG s (s.size + 1) 0
theorem scanG_no (s : ByteArray) (k i : Nat) (h : fOk (fromAt s i) = false) : scanG s k i = ([], i) := by
  cases k with
  | zero => rfl
  | succ k => simp [scanG, h]
theorem scanG_more (s : ByteArray) : ∀ (k j i : Nat), s.size < k + i → s.size < j + i → i ≤ s.size → scanG s k i = scanG s j i := by
  intro k
  induction k with
  | zero => intro j i h1 _ h3; omega
  | succ k ih =>
    intro j i h1 h2 h3
    cases j with
    | zero => omega
    | succ j =>
      by_cases h : fOk (fromAt s i) = true
      · have hf := fOk_fits h
        rw [fromAt_size s i h3] at hf
        simp only [scanG, if_pos h]
        rw [ih j (i + 8 + fN (fromAt s i)) (by omega) (by omega) (by omega)]
      · simp only [scanG, if_neg h]
theorem scanG_le (s : ByteArray) : ∀ (k i : Nat), i ≤ s.size → (scanG s k i).2 ≤ s.size ∧ 8 * (scanG s k i).1.length + i ≤ (scanG s k i).2 := by
  intro k
  induction k with
  | zero => intro i h; exact ⟨h, by simp [scanG]⟩
  | succ k ih =>
    intro i h1
    by_cases h : fOk (fromAt s i) = true
    · have hf := fOk_fits h
      rw [fromAt_size s i h1] at hf
      have := ih (i + 8 + fN (fromAt s i)) (by omega)
      simp only [scanG, if_pos h]
      refine ⟨this.1, ?_⟩
      simp only [List.length_cons]; omega
    · simp only [scanG, if_neg h]
      exact ⟨h1, by simp⟩
theorem scan_le (s : ByteArray) : (scan s).2 ≤ s.size ∧ 8 * (scan s).1.length ≤ (scan s).2 := by
  have := scanG_le s (s.size + 1) 0 (by omega)
  exact ⟨this.1, by have := this.2; simpa [scan] using this⟩
/-- the state of a scan that has come to i with the records ls -/
def Scanned (s : ByteArray) (ls : List ByteArray) (i : Nat) : Prop :=
  i ≤ s.size ∧ 8 * ls.length ≤ i ∧ scan s = (ls ++ (scanG s (s.size + 1) i).1, (scanG s (s.size + 1) i).2)
theorem Scanned.start (s : ByteArray) : Scanned s [] 0 := ⟨by omega, by simp, by simp [scan]⟩
theorem Scanned.next {s : ByteArray} {ls : List ByteArray} {i : Nat} (h : Scanned s ls i) (ho : fOk (fromAt s i) = true) : Scanned s (ls ++ [fBody (fromAt s i)]) (i + 8 + fN (fromAt s i)) := by
  obtain ⟨h1, h2, h3⟩ := h
  have hf := fOk_fits ho
  rw [fromAt_size s i h1] at hf
  refine ⟨by omega, by simp; omega, ?_⟩
  rw [h3]
  have e : scanG s (s.size + 1) i = (fBody (fromAt s i) :: (scanG s s.size (i + 8 + fN (fromAt s i))).1, (scanG s s.size (i + 8 + fN (fromAt s i))).2) := by
    simp [scanG, ho]
  rw [e, scanG_more s s.size (s.size + 1) _ (by omega) (by omega) (by omega)]
  simp
theorem Scanned.stop {s : ByteArray} {ls : List ByteArray} {i : Nat} (h : Scanned s ls i) (ho : fOk (fromAt s i) = false) : scan s = (ls, i) := by
  rw [h.2.2, scanG_no s _ i ho]; simp
/-- frames, one behind the other -/
def packs : List ByteArray → ByteArray
  | [] => ⟨#[]⟩
  | b :: l => frm b ++ packs l
theorem empty_append (s : ByteArray) : (⟨#[]⟩ : ByteArray) ++ s = s := by apply BL_inj; rw [BL_append]; rfl
theorem append_empty (s : ByteArray) : s ++ (⟨#[]⟩ : ByteArray) = s := by apply BL_inj; rw [BL_append]; simp [BL]
theorem append_assoc3 (a b c : ByteArray) : a ++ b ++ c = a ++ (b ++ c) := by apply BL_inj; simp [BL_append]
theorem packs_snoc (l : List ByteArray) (b : ByteArray) : packs (l ++ [b]) = packs l ++ frm b := by
  induction l with
  | nil => simp [packs, empty_append, append_empty]
  | cons a l ih => simp [packs, ih, append_assoc3]
theorem fromAt_append (a b : ByteArray) : fromAt (a ++ b) a.size = b := by
  apply BL_inj
  unfold fromAt
  rw [BL_extract, ← BL_length (a ++ b), List.take_length, BL_append, ← BL_length a, List.drop_left]
theorem fromAt_plus (s : ByteArray) (i j : Nat) : fromAt s (i + j) = fromAt (fromAt s i) j := by
  apply BL_inj
  unfold fromAt
  rw [BL_extract, BL_extract, BL_extract, ← BL_length (s.extract i s.size), BL_extract, ← BL_length s, List.take_length, List.take_length, List.drop_drop]
theorem scanG_packs (l : List ByteArray) (hl : ∀ b ∈ l, b.size ≤ 65536) (r : ByteArray) (hr : fOk r = false) (s : ByteArray) : ∀ (i k : Nat), l.length < k → fromAt s i = packs l ++ r →
    scanG s k i = (l, i + (packs l).size) := by
  induction l with
  | nil =>
    intro i k _ h
    have hno : fOk (fromAt s i) = false := by rw [h]; simp only [packs]; rw [empty_append]; exact hr
    rw [scanG_no s k i hno]
    rfl
  | cons b l ih =>
    intro i k hk h
    obtain ⟨k, rfl⟩ : ∃ m, k = m + 1 := ⟨k - 1, by omega⟩
    have hb := hl b (by simp)
    simp only [packs] at h
    rw [append_assoc3] at h
    have hok : fOk (fromAt s i) = true := by rw [h]; exact fOk_frm b _ hb
    have hn : fN (fromAt s i) = b.size := by rw [h]; exact fN_frm b _ hb
    have hbd : fBody (fromAt s i) = b := by rw [h]; exact fBody_frm b _ hb
    have hnext : fromAt s (i + 8 + b.size) = packs l ++ r := by
      rw [show i + 8 + b.size = i + (frm b).size by rw [frm_size]; omega, fromAt_plus, h, fromAt_append]
    have := ih (fun x hx => hl x (by simp [hx])) (i + 8 + b.size) k (by simp at hk; omega) hnext
    simp only [scanG, if_pos hok, hn, hbd, this]
    simp only [packs, ByteArray.size_append, frm_size]
    exact Prod.ext rfl (by show i + 8 + b.size + (packs l).size = i + (8 + b.size + (packs l).size); omega)
theorem packs_length (l : List ByteArray) : 8 * l.length ≤ (packs l).size := by
  induction l with
  | nil => simp
  | cons b l ih => simp only [packs, ByteArray.size_append, frm_size, List.length_cons]; omega
/-- frames, and behind them what is no frame, are just those frames -/
theorem scan_packs (l : List ByteArray) (hl : ∀ b ∈ l, b.size ≤ 65536) (r : ByteArray) (hr : fOk r = false) : scan (packs l ++ r) = (l, (packs l).size) := by
  have := scanG_packs l hl r hr (packs l ++ r) 0 ((packs l ++ r).size + 1) (by rw [ByteArray.size_append]; have := packs_length l; omega) (by unfold fromAt; rw [ex_all])
  rw [scan, this]; simp
/-- a beginning of a frame is none -/
theorem torn (b : ByteArray) (hb : b.size ≤ 65536) (k : Nat) (hk : k < (frm b).size) : fOk ((frm b).extract 0 k) = false := by
  have hz : ((frm b).extract 0 k).size = k := by rw [ex_size] <;> omega
  rw [frm_size] at hk
  by_cases h8 : 8 ≤ k
  · have hn : fN ((frm b).extract 0 k) = b.size := by
      have : ((frm b).extract 0 k).extract 0 4 = (frm b ++ ⟨#[]⟩).extract 0 4 := by
        apply BL_inj
        rw [BL_extract, BL_extract, BL_extract, append_empty, List.drop_zero, List.drop_zero, List.drop_zero, List.take_take, Nat.min_eq_left (by omega)]
      unfold fN; rw [this, frm_ex0, rdN_layS _ (by omega)]
    unfold fOk
    rw [hn, hz]
    simp; omega
  · unfold fOk
    rw [hz]
    simp [h8]
theorem fOk_empty : fOk (⟨#[]⟩ : ByteArray) = false := by
  unfold fOk; simp [ByteArray.size]
end Go.Proofs.YtdmjbdecemajpaaDoor
