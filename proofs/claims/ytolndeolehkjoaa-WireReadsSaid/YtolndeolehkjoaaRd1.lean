/- The reader of bytes: its parts fail, take, small. -/
import Derived.Test.YtolndeolehkjoaaProg
import Derived.Test.YtolndeolehkjoaaGen
import Derived.Test.YtolndeolehkjoaaCodS
import Derived.Deep.RegionHeld3
import Derived.Deep.RegionLaw
import Derived.Deep.CutRange
import Derived.Laws.OwnMore
namespace Go.Proofs.Ytolndeolehkjoaa
set_option linter.unusedVariables false
set_option linter.unusedSimpArgs false
open Go.RowKit CodP
/-- a reader of a text in memory -/
structure RdAt (w : World) (rb : Nat) (s : ByteArray) (st : RSt) : Prop where
  is : w.heap[rb]? = some (.cells #[.string s, .int .i64 st.1, .int .i64 st.2] 82 (0, 0))
  le : st.1 ≤ s.size
  sz : s.size ≤ 1000000
theorem RdAt.cell0 {w : World} {rb : Nat} {s : ByteArray} {st : RSt} (h : RdAt w rb s st) : w.cell? ⟨rb, 0, none⟩ = some (.string s) := by simp [World.cell?, h.is]
theorem RdAt.cell1 {w : World} {rb : Nat} {s : ByteArray} {st : RSt} (h : RdAt w rb s st) : w.cell? ⟨rb, 1, none⟩ = some (.int .i64 st.1) := by simp [World.cell?, h.is]
theorem RdAt.cell2 {w : World} {rb : Nat} {s : ByteArray} {st : RSt} (h : RdAt w rb s st) : w.cell? ⟨rb, 2, none⟩ = some (.int .i64 st.2) := by simp [World.cell?, h.is]
theorem RdAt.frozen {w : World} {rb : Nat} {s : ByteArray} {st : RSt} (h : RdAt w rb s st) (i : Nat) : w.frozen? ⟨rb, i, none⟩ = false := by simp [World.frozen?, h.is]
theorem RdAt.lt {w : World} {rb : Nat} {s : ByteArray} {st : RSt} (h : RdAt w rb s st) : rb < w.heap.size := (Array.getElem?_eq_some_iff.1 h.is).1
theorem grown_set (w : World) (r i : Nat) (v : Value) : w.grownBy (w.setCell ⟨r, i, none⟩ v) (some r) :=
  ⟨rfl, rfl, rfl, by simp [World.setCell], fun j _ hj => Below.heap_setCell _ _ _ _ (fun e => hj (e ▸ rfl))⟩
theorem RdAt.set1 {w : World} {rb : Nat} {s : ByteArray} {st : RSt} (h : RdAt w rb s st) (n : Nat) (hn : n ≤ s.size) : RdAt (w.setCell ⟨rb, 1, none⟩ (.int .i64 n)) rb s (n, st.2) :=
  ⟨by rw [heap_setCell_same _ _ _ _ _ _ h.is]; rfl, hn, h.sz⟩
theorem RdAt.set2 {w : World} {rb : Nat} {s : ByteArray} {st : RSt} (h : RdAt w rb s st) (e : Int) : RdAt (w.setCell ⟨rb, 2, none⟩ (.int .i64 e)) rb s (st.1, e) :=
  ⟨by rw [heap_setCell_same _ _ _ _ _ _ h.is]; rfl, h.le, h.sz⟩
theorem RdAt.below {w w1 : World} {rb : Nat} {s : ByteArray} {st : RSt} (h : RdAt w rb s st) (hb : Below w.heap.size w w1) : RdAt w1 rb s st :=
  ⟨(hb.block rb h.lt).trans h.is, h.le, h.sz⟩
theorem grown_drewN {w w1 : World} {k : Option Nat} (h : w.grownBy w1 k) (n : Nat) : w.grownBy (w1.drewN n) k := ⟨h.os, h.tape, h.output, h.size, h.block⟩
theorem grown_below {w w1 : World} (h : Below w.heap.size w w1) (k : Option Nat) : w.grownBy w1 k := ⟨h.os, h.tape, h.output, h.size, fun i hi _ => h.block i hi⟩
set_option maxRecDepth 100000 in
set_option maxHeartbeats 400000 in
theorem fail_any (rb : Nat) (s : ByteArray) (st : RSt) (e : Int) (w : World) (h : RdAt w rb s st) :
    Calls Try.prog 73 #[.pointer (some ⟨rb, 0, none⟩), .int .i64 e] w fun x w' => x = .returned (.tuple #[]) ∧ RdAt w' rb s (failI e st) ∧ w.grownBy w' (some rb) := by
  have c2 := h.cell2
  have f2 := h.frozen 2
  by_cases h0 : st.2 = 0
  · rw [h0] at c2
    have H := Lib.hid h
    have H0 := Lib.hid h0
    clear h h0
    go_enter Try.func73, Try.ntmps73
    go_wp2
    refine bodyPost_end (results_none rfl _ _ _) rfl ⟨rfl, ?_, grown_set _ _ _ _⟩
    rw [show failI e st = (st.1, e) from if_pos H0.out]
    exact H.out.set2 e
  · have H := Lib.hid h
    have h1 : (st.2 == 0) = false := by simpa using h0
    have H0 := Lib.hid h0
    clear h h0
    go_enter Try.func73, Try.ntmps73
    go_wp2
    refine bodyPost_end (results_none rfl _ _ _) rfl ⟨rfl, ?_, World.grownBy.refl _ _⟩
    rw [show failI e st = st from if_neg H0.out]
    exact H.out
theorem slc (s : ByteArray) (lo hi : Int) (a b : Nat) (ha : lo = a) (hb : hi = b) (h : a ≤ b) (h2 : b ≤ s.size) (W : World) :
    (Instr.slice 9 (.string s) (some (.int .i64 lo)) (some (.int .i64 hi)) none).run Try.prog W = .ok (.string (s.extract a b)) W := by
  subst ha; subst hb
  have := run_slice_string W 9 s .i64 .i64 (a : Int) (b : Int) Try.underlying9 (by omega) (by omega) (by omega)
  simpa using this
set_option maxRecDepth 100000 in
set_option maxHeartbeats 1000000 in
theorem take_any (rb : Nat) (s : ByteArray) (st : RSt) (n : Nat) (hn : n ≤ 1000) (w : World) (h : RdAt w rb s st) :
    Calls Try.prog 95 #[.pointer (some ⟨rb, 0, none⟩), .int .i64 n] w fun x w' => x = .returned (.string (takeI s n st).1) ∧ RdAt w' rb s (takeI s n st).2 ∧ w.grownBy w' (some rb) := by
  have c0 := h.cell0
  have c1 := h.cell1
  have c2 := h.cell2
  have f1 := h.frozen 1
  have hle := h.le
  have hsz := h.sz
  obtain ⟨i, e⟩ := st
  simp only at c1 c2 hle
  by_cases h0 : e = 0
  · subst h0
    have H := Lib.hid h
    clear h
    by_cases h1 : s.size - i < n
    · have h2 : ((s.size : Int) - i < n) := by omega
      have hd : takeI s n (i, 0) = (⟨#[]⟩, (i, 3)) := by simp [takeI, h1]
      have HD := Lib.hid hd
      have Hf : Hid (failI 3 (i, 0) = (i, 3)) := Lib.hid rfl
      clear hd h1
      go_enter Try.func95, Try.ntmps95
      go_wp2
      go_quiet (fail)
      obtain ⟨w3, hw3⟩ : ∃ w3, w3 = w.drewN nq := ⟨_, rfl⟩
      have H3 : RdAt w3 rb s (i, 0) := by rw [hw3]; exact ⟨H.out.is, H.out.le, H.out.sz⟩
      have G3 : w.grownBy w3 (some rb) := by rw [hw3]; exact grown_drewN (World.grownBy.refl _ _) _
      have HH3 := Lib.hid H3
      have GG3 := Lib.hid G3
      rw [← hw3]
      clear H3 G3 hw3
      go_wp2_with (fail)
      refine (fail_any rb s (i, 0) 3 _ HH3.out).mono ?_
      rintro x w4 ⟨rfl, h4, g4⟩
      have HH4 := Lib.hid h4
      have GG4 := Lib.hid g4
      clear h4 g4
      go_wp2
      go_ret
      refine ⟨by rw [HD.out]; rfl, ?_, GG3.out.trans GG4.out⟩
      rw [HD.out]
      have := HH4.out
      rwa [Hf.out] at this
    · have h2 : (n : Int) ≤ (s.size : Int) - i := by omega
      have hd : takeI s n (i, 0) = (s.extract i (i + n), (i + n, 0)) := by simp [takeI, h1]
      have HD := Lib.hid hd
      clear hd h1
      have hsl := slc s i (i + n) i (i + n) rfl (by omega) (by omega) (by omega)
      go_enter Try.func95, Try.ntmps95
      go_wp2
      go_quiet (fail)
      obtain ⟨w3, hw3⟩ : ∃ w3, w3 = w.drewN nq := ⟨_, rfl⟩
      have H3 : RdAt w3 rb s (i, 0) := by rw [hw3]; exact ⟨H.out.is, H.out.le, H.out.sz⟩
      have G3 : w.grownBy w3 (some rb) := by rw [hw3]; exact grown_drewN (World.grownBy.refl _ _) _
      have d1 := H3.cell1
      have e1 := H3.frozen 1
      have HH3 := Lib.hid H3
      have GG3 := Lib.hid G3
      rw [← hw3]
      clear H3 G3 hw3 c0 c1 c2 f1
      go_wp2
      have H5 : RdAt (w3.setCell ⟨rb, 1, none⟩ (.int .i64 ((i : Int) + n))) rb s (i + n, 0) := HH3.out.set1 (i + n) (by omega)
      have G5 : w.grownBy (w3.setCell ⟨rb, 1, none⟩ (.int .i64 ((i : Int) + n))) (some rb) := GG3.out.trans (grown_set _ _ _ _)
      obtain ⟨w5, hw5⟩ : ∃ w5, w5 = w3.setCell ⟨rb, 1, none⟩ (.int .i64 ((i : Int) + n)) := ⟨_, rfl⟩
      rw [← hw5] at H5 G5 ⊢
      have b0 := H5.cell0
      have b1 := H5.cell1
      have HH5 := Lib.hid H5
      have GG5 := Lib.hid G5
      clear H5 G5 hw5 d1 e1
      have hsb : ((i + n : Nat) : Int) - n = i := by omega
      go_quiet (fail)
      go_wp2
      go_ret
      refine ⟨by rw [HD.out]; rfl, ?_, ?_⟩
      · rw [HD.out]
        exact ⟨HH5.out.is, HH5.out.le, HH5.out.sz⟩
      · exact grown_drewN GG5.out _
  · have hd : takeI s n (i, e) = (⟨#[]⟩, (i, e)) := by simp [takeI, h0]
    have h1 : (e != 0) = true := by simpa using h0
    have H := Lib.hid h
    have HD := Lib.hid hd
    clear h hd
    go_enter Try.func95, Try.ntmps95
    go_wp2
    go_ret
    exact ⟨by rw [HD.out]; rfl, by rw [HD.out]; exact H.out, World.grownBy.refl _ _⟩
end Go.Proofs.Ytolndeolehkjoaa
