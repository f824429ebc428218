/- The walks of package frame: the frame that bytes begin with. -/
import Derived.Test.YtdmjbdecemajpaaDoorFrm1
namespace Go.Proofs.YtdmjbdecemajpaaDoor
open Go.RowKit SumP
theorem ex_size (s : ByteArray) (a b : Nat) (h1 : a ≤ b) (h2 : b ≤ s.size) : (s.extract a b).size = b - a := by
  rw [ByteArray.size_extract]; omega
/-- s[lo:hi] of a string -/
theorem slc (s : ByteArray) (lo hi : Int) (a b : Nat) (ha : lo = a) (hb : hi = b) (h : a ≤ b) (h2 : b ≤ s.size) (W : World) :
    (Instr.slice 9 (.string s) (some (.int .i64 lo)) (some (.int .i64 hi)) none).run Tryd.prog W = .ok (.string (s.extract a b)) W := by
  subst ha; subst hb
  have := run_slice_string W 9 s .i64 .i64 (a : Int) (b : Int) Tryd.underlying9 (by omega) (by omega) (by omega)
  simpa using this
/-- the length that the first four bytes tell; the bytes behind the head; is it a frame? -/
def fN (s : ByteArray) : Nat := rdN (s.extract 0 4)
def fBody (s : ByteArray) : ByteArray := s.extract 8 (8 + fN s)
def fOk (s : ByteArray) : Bool := decide (8 ≤ s.size ∧ fN s ≤ 65536 ∧ fN s ≤ s.size - 8) && (rdN (s.extract 4 8) == onN 0 (s.extract 0 4 ++ fBody s))
theorem fOk_fits {s : ByteArray} (h : fOk s = true) : 8 ≤ s.size ∧ fN s ≤ 65536 ∧ fN s ≤ s.size - 8 := by
  unfold fOk at h; simp only [Bool.and_eq_true, decide_eq_true_eq] at h; exact h.1
set_option maxRecDepth 100000 in
set_option maxHeartbeats 400000 in
theorem first_fits (s : ByteArray) (hs : s.size ≤ 140737488351232) (w : World) (hT : Hid (TabOf w)) (h8 : 8 ≤ s.size) (h1 : fN s ≤ 65536) (h2 : fN s ≤ s.size - 8) (b : Bool) (hb : (rdN (s.extract 4 8) == onN 0 (s.extract 0 4 ++ fBody s)) = b) :
    Calls Tryd.prog 47 #[.string s] w fun e w' => e = .returned (.tuple #[.string (fBody s), .bool b]) ∧ Below w.heap.size w w' := by
  have hr := fun W => read_any (s.extract 0 4) (by rw [ex_size] <;> omega) W
  have hr2 := fun W => read_any (s.extract 4 8) (by rw [ex_size] <;> omega) W
  have hbody : fBody s = s.extract 8 (8 + fN s) := rfl
  obtain ⟨n, hn⟩ : ∃ n, n = fN s := ⟨_, rfl⟩
  obtain ⟨m, hm⟩ : ∃ n, n = rdN (s.extract 4 8) := ⟨_, rfl⟩
  rw [show rdN (s.extract 0 4) = n from hn.symm] at hr
  rw [← hm] at hr2 hb
  rw [← hn] at h1 h2 hbody
  rw [hbody] at hb
  obtain ⟨q, hq⟩ : ∃ q, q = onN 0 (s.extract 0 4 ++ s.extract 8 (8 + n)) := ⟨_, rfl⟩
  have hz : (s.extract 0 4 ++ s.extract 8 (8 + n)).size ≤ 140737488351232 := by
    rw [ByteArray.size_append, ex_size, ex_size] <;> omega
  have ho := fun W hT => of_any (s.extract 0 4 ++ s.extract 8 (8 + n)) hz W hT
  rw [← hq] at hb ho
  have hb' : ((m : Int) == (q : Int)) = b := by
    rw [← hb, Bool.eq_iff_iff, beq_iff_eq, beq_iff_eq]; omega
  have Hr := Lib.hid hr
  have Hr2 := Lib.hid hr2
  have Ho := Lib.hid ho
  have Hbody := Lib.hid hbody
  clear hr hr2 ho hbody hn hm hq hb hz
  have h3 : (n : Int) ≤ (s.size : Int) - 8 := by omega
  have hsl := slc s 8 (8 + n) 8 (8 + n) rfl (by omega) (by omega) (by omega)
  have z1 : (s.extract 0 4).size ≤ 4 := by rw [ex_size] <;> omega
  have z2 : (s.extract 8 (8 + n)).size ≤ 65536 := by rw [ex_size] <;> omega
  go_enter Tryd.func47, Tryd.ntmps47
  go_wp2_with (first
    | (go_at_call_of 17 (Value.string (s.extract 0 4)); refine Calls.mono (Hr.out _) ?_; rintro e w1 ⟨rfl, hb1⟩)
    | (go_at_call 17; refine Calls.mono (Hr2.out _) ?_; rintro e w2 ⟨rfl, hb2⟩; have hT2 : Hid (TabOf w2) := Lib.hid (TabOf.below (TabOf.below hT.out hb1) hb2))
    | (go_at_call 13; refine Calls.mono (Ho.out _ hT2) ?_; rintro e w3 ⟨rfl, rfl⟩))
  go_ret2
  exact ⟨by rw [Hbody.out]; rfl, below_then hb1 hb2⟩
set_option maxRecDepth 100000 in
set_option maxHeartbeats 400000 in
theorem first_short (s : ByteArray) (hs : s.size ≤ 140737488351232) (w : World) (h8 : ¬ 8 ≤ s.size) :
    Calls Tryd.prog 47 #[.string s] w fun e w' => e = .returned (.tuple #[.string ⟨#[]⟩, .bool false]) ∧ Below w.heap.size w w' := by
  go_enter Tryd.func47, Tryd.ntmps47
  go_wp2
  go_ret2
  exact ⟨rfl, Below.refl _ _⟩
set_option maxRecDepth 100000 in
set_option maxHeartbeats 400000 in
theorem first_wide (s : ByteArray) (hs : s.size ≤ 140737488351232) (w : World) (h8 : 8 ≤ s.size) (h1 : ¬ (fN s ≤ 65536 ∧ fN s ≤ s.size - 8)) :
    Calls Tryd.prog 47 #[.string s] w fun e w' => e = .returned (.tuple #[.string ⟨#[]⟩, .bool false]) ∧ Below w.heap.size w w' := by
  have hr := fun W => read_any (s.extract 0 4) (by rw [ex_size] <;> omega) W
  have hl := rdN_lt (s.extract 0 4)
  obtain ⟨n, hn⟩ : ∃ n, n = fN s := ⟨_, rfl⟩
  rw [show rdN (s.extract 0 4) = n from hn.symm] at hr hl
  rw [← hn] at h1
  have Hr := Lib.hid hr
  clear hr hn
  by_cases h2 : n ≤ 65536
  · have h3 : (s.size : Int) - 8 < n := by omega
    have H1 := Lib.hid h1
    clear h1
    go_enter Tryd.func47, Tryd.ntmps47
    go_wp2_with (go_at_call 17; refine Calls.mono (Hr.out _) ?_; rintro e w1 ⟨rfl, hb1⟩)
    go_ret2
    exact ⟨rfl, hb1⟩
  · have h3 : (65536 : Int) < n := by omega
    have H1 := Lib.hid h1
    clear h1 h2
    go_enter Tryd.func47, Tryd.ntmps47
    go_wp2_with (go_at_call 17; refine Calls.mono (Hr.out _) ?_; rintro e w1 ⟨rfl, hb1⟩)
    go_ret2
    exact ⟨rfl, hb1⟩
theorem first_yes (s : ByteArray) (hs : s.size ≤ 140737488351232) (w : World) (hT : Hid (TabOf w)) (h : fOk s = true) :
    Calls Tryd.prog 47 #[.string s] w fun e w' => e = .returned (.tuple #[.string (fBody s), .bool true]) ∧ Below w.heap.size w w' := by
  obtain ⟨h8, h1, h2⟩ := fOk_fits h
  refine first_fits s hs w hT h8 h1 h2 true ?_
  unfold fOk at h; simp only [Bool.and_eq_true] at h; exact h.2
theorem first_no (s : ByteArray) (hs : s.size ≤ 140737488351232) (w : World) (hT : Hid (TabOf w)) (h : fOk s = false) :
    Calls Tryd.prog 47 #[.string s] w fun e w' => ∃ b, e = .returned (.tuple #[.string b, .bool false]) ∧ Below w.heap.size w w' := by
  by_cases h8 : 8 ≤ s.size
  · by_cases h1 : fN s ≤ 65536 ∧ fN s ≤ s.size - 8
    · refine (first_fits s hs w hT h8 h1.1 h1.2 false ?_).mono fun e w' hh => ⟨_, hh⟩
      unfold fOk at h; simpa [h8, h1] using h
    · exact (first_wide s hs w h8 h1).mono fun e w' hh => ⟨_, hh⟩
  · exact (first_short s hs w h8).mono fun e w' hh => ⟨_, hh⟩
end Go.Proofs.YtdmjbdecemajpaaDoor
