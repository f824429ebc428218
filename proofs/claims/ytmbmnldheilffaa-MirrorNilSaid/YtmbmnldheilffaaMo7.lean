/- What an argument of an object reads as. -/
import Derived.Test.YtmbmnldheilffaaMo4
import Derived.Test.YtmbmnldheilffaaOpn
namespace Go.Proofs.Ytmbmnldheilffaa
set_option linter.unusedVariables false
set_option linter.unusedSimpArgs false
open Go.RowKit
theorem cells3 : Try.prog.cellsOf 3 = 1 := by kernel_rfl
theorem cells4 : Try.prog.cellsOf 4 = 1 := by kernel_rfl
theorem cells9 : Try.prog.cellsOf 9 = 1 := by kernel_rfl
theorem cells28 : Try.prog.cellsOf 22 = 1 := by kernel_rfl
theorem cells29 : Try.prog.cellsOf 23 = 1 := by kernel_rfl
theorem cells30 : Try.prog.cellsOf 24 = 1 := by kernel_rfl
theorem cells32 : Try.prog.cellsOf 26 = 19 := by kernel_rfl
theorem cells102 : Try.prog.cellsOf 78 = 2 := by kernel_rfl
theorem bytes3 : Try.prog.bytesOf 3 = 8 := by kernel_rfl
theorem bytes9 : Try.prog.bytesOf 9 = 16 := by kernel_rfl
theorem bytes102 : Try.prog.bytesOf 78 = 32 := by kernel_rfl
theorem row_of {w : World} {sz n : Nat} {A : Option Addr} {c : Nat} {cs : List Value} (h : G.HasRow w sz (.slice A n c) n cs) : RowR w A cs := by
  obtain ⟨_, B, d, hv, _, _, hc⟩ := h
  injection hv with h1 _ _
  subst h1
  exact hc
section
variable {H : Type} {enc : TypeId × Value → H} {W : World} {base : Nat} {sp : Nat → Bool} {held : Bool}
theorem strs_open : P.Opens enc Try.prog W base sp held 22 fun cs => ∃ (l : List ByteArray) (A : Option Addr) (c : Nat), cs = [.slice A l.length c] ∧ l.length ≤ 140737488351232 ∧ (∀ x ∈ l, x.size ≤ 140737488351232) ∧ RowR W A (l.flatMap cS) :=
  (P.opens_slice Try.underlying22 cS (fun s => s.size ≤ 140737488351232) 1 16 cells9 bytes9 (fun _ => rfl) (P.opens_string Try.underlying9)).mono fun cs ⟨l, A, c, h1, h2, h3, h4⟩ => ⟨l, A, c, h1, by omega, h3, row_of h4⟩
theorem ints_open : P.Opens enc Try.prog W base sp held 24 fun cs => ∃ (l : List Int) (A : Option Addr) (c : Nat), cs = [.slice A l.length c] ∧ l.length ≤ 140737488351232 ∧ (∀ n ∈ l, -9223372036854775808 ≤ n ∧ n ≤ 9223372036854775807) ∧ RowR W A (l.flatMap cI) :=
  (P.opens_slice Try.underlying24 cI (fun n => -9223372036854775808 ≤ n ∧ n ≤ 9223372036854775807) 1 8 cells3 bytes3 (fun _ => rfl) (P.opens_i64 Try.underlying3)).mono fun cs ⟨l, A, c, h1, h2, h3, h4⟩ => ⟨l, A, c, h1, by omega, h3, row_of h4⟩
theorem two_of {cs : List Value} (h : cs.length = 2) : ∃ c0 c1, cs = [c0, c1] := by
  match cs, h with
  | [a, b], _ => exact ⟨a, b, rfl⟩
theorem pair_open : P.Opens enc Try.prog W base sp held 78 fun cs => ∃ x : ByteArray × ByteArray, cs = cP x ∧ (x.1.size ≤ 140737488351232 ∧ x.2.size ≤ 140737488351232) := by
  refine (P.opens_struct Try.underlying78 (fun _ cs => ∃ s : ByteArray, cs = [.string s] ∧ s.size ≤ 140737488351232) fun j f hj => ?_).mono fun cs ⟨hl, h⟩ => ?_
  · match j, hj with
    | 0, hj => simp at hj; subst hj; exact P.opens_string Try.underlying9
    | 1, hj => simp at hj; subst hj; exact P.opens_string Try.underlying9
    | k + 2, hj => simp at hj
  · rw [cells102] at hl
    obtain ⟨c0, c1, rfl⟩ := two_of hl
    have q0 : ∃ s : ByteArray, ([c0, c1].drop 0).take (Try.prog.cellsOf 9) = [.string s] ∧ s.size ≤ 140737488351232 := h 0 ⟨ "Key", 9, 0, false, "", "", 0⟩ rfl
    have q1 : ∃ s : ByteArray, ([c0, c1].drop 1).take (Try.prog.cellsOf 9) = [.string s] ∧ s.size ≤ 140737488351232 := h 1 ⟨ "Value", 9, 1, false, "", "", 16⟩ rfl
    rw [cells9] at q0 q1
    obtain ⟨a, h1, h2⟩ := q0
    obtain ⟨b, h3, h4⟩ := q1
    simp at h1 h3
    subst h1; subst h3
    exact ⟨(a, b), rfl, h2, h4⟩
theorem pairs_open : P.Opens enc Try.prog W base sp held 23 fun cs => ∃ (l : List (ByteArray × ByteArray)) (A : Option Addr) (c : Nat), cs = [.slice A l.length c] ∧ l.length ≤ 140737488351232 ∧ (∀ x ∈ l, x.1.size ≤ 140737488351232 ∧ x.2.size ≤ 140737488351232) ∧ RowR W A (l.flatMap cP) :=
  (P.opens_slice Try.underlying23 cP (fun x => x.1.size ≤ 140737488351232 ∧ x.2.size ≤ 140737488351232) 2 32 cells102 bytes102 (fun _ => rfl) (pair_open)).mono fun cs ⟨l, A, c, h1, h2, h3, h4⟩ => ⟨l, A, c, h1, by omega, h3, row_of h4⟩
/-- the bounds of what came in -/
structure ObSz (o : Ob) : Prop where
  i : ∀ n ∈ [o.kind, o.uid, o.version, o.type, o.policy, o.bits] ++ o.fams, -9223372036854775808 ≤ n ∧ n ≤ 9223372036854775807
  s : ∀ x ∈ [o.name, o.status, o.v4, o.v6, o.sel, o.about, o.reason] ++ o.fins ++ o.cidrs ++ o.ips, x.size ≤ 140737488351232
  p : ∀ x ∈ o.labels, x.1.size ≤ 140737488351232 ∧ x.2.size ≤ 140737488351232
  l : o.fins.length ≤ 140737488351232 ∧ o.labels.length ≤ 140737488351232 ∧ o.cidrs.length ≤ 140737488351232 ∧ o.fams.length ≤ 140737488351232 ∧ o.ips.length ≤ 140737488351232
def fieldR (W : World) (j : Nat) (cs : List Value) : Prop :=
  match j with
  | 0 => ∃ n : Int, cs = [.int .i64 n] ∧ (-9223372036854775808 ≤ n ∧ n ≤ 9223372036854775807)
  | 1 => ∃ s : ByteArray, cs = [.string s] ∧ s.size ≤ 140737488351232
  | 2 => ∃ n : Int, cs = [.int .i64 n] ∧ (-9223372036854775808 ≤ n ∧ n ≤ 9223372036854775807)
  | 3 => ∃ n : Int, cs = [.int .i64 n] ∧ (-9223372036854775808 ≤ n ∧ n ≤ 9223372036854775807)
  | 4 => ∃ b, cs = [.bool b]
  | 5 => ∃ (l : List ByteArray) (A : Option Addr) (c : Nat), cs = [.slice A l.length c] ∧ l.length ≤ 140737488351232 ∧ (∀ x ∈ l, x.size ≤ 140737488351232) ∧ RowR W A (l.flatMap cS)
  | 6 => ∃ (l : List (ByteArray × ByteArray)) (A : Option Addr) (c : Nat), cs = [.slice A l.length c] ∧ l.length ≤ 140737488351232 ∧ (∀ x ∈ l, x.1.size ≤ 140737488351232 ∧ x.2.size ≤ 140737488351232) ∧ RowR W A (l.flatMap cP)
  | 7 => ∃ (l : List ByteArray) (A : Option Addr) (c : Nat), cs = [.slice A l.length c] ∧ l.length ≤ 140737488351232 ∧ (∀ x ∈ l, x.size ≤ 140737488351232) ∧ RowR W A (l.flatMap cS)
  | 8 => ∃ s : ByteArray, cs = [.string s] ∧ s.size ≤ 140737488351232
  | 9 => ∃ n : Int, cs = [.int .i64 n] ∧ (-9223372036854775808 ≤ n ∧ n ≤ 9223372036854775807)
  | 10 => ∃ n : Int, cs = [.int .i64 n] ∧ (-9223372036854775808 ≤ n ∧ n ≤ 9223372036854775807)
  | 11 => ∃ (l : List Int) (A : Option Addr) (c : Nat), cs = [.slice A l.length c] ∧ l.length ≤ 140737488351232 ∧ (∀ n ∈ l, -9223372036854775808 ≤ n ∧ n ≤ 9223372036854775807) ∧ RowR W A (l.flatMap cI)
  | 12 => ∃ (l : List ByteArray) (A : Option Addr) (c : Nat), cs = [.slice A l.length c] ∧ l.length ≤ 140737488351232 ∧ (∀ x ∈ l, x.size ≤ 140737488351232) ∧ RowR W A (l.flatMap cS)
  | 13 => ∃ s : ByteArray, cs = [.string s] ∧ s.size ≤ 140737488351232
  | 14 => ∃ s : ByteArray, cs = [.string s] ∧ s.size ≤ 140737488351232
  | 15 => ∃ n : Int, cs = [.int .i64 n] ∧ (-9223372036854775808 ≤ n ∧ n ≤ 9223372036854775807)
  | 16 => ∃ s : ByteArray, cs = [.string s] ∧ s.size ≤ 140737488351232
  | 17 => ∃ s : ByteArray, cs = [.string s] ∧ s.size ≤ 140737488351232
  | 18 => ∃ s : ByteArray, cs = [.string s] ∧ s.size ≤ 140737488351232
  | _ => True
theorem nineteen {cs : List Value} (h : cs.length = 19) : ∃ c0 c1 c2 c3 c4 c5 c6 c7 c8 c9 c10 c11 c12 c13 c14 c15 c16 c17 c18, cs = [c0, c1, c2, c3, c4, c5, c6, c7, c8, c9, c10, c11, c12, c13, c14, c15, c16, c17, c18] := by
  match cs, h with
  | [c0, c1, c2, c3, c4, c5, c6, c7, c8, c9, c10, c11, c12, c13, c14, c15, c16, c17, c18], _ => exact ⟨c0, c1, c2, c3, c4, c5, c6, c7, c8, c9, c10, c11, c12, c13, c14, c15, c16, c17, c18, rfl⟩
set_option maxHeartbeats 1000000 in
theorem ob_open : P.Opens enc Try.prog W base sp held 26 fun cs => ∃ (o : Ob) (f l c p i : Sl), cs = (oc o f l c p i).toList ∧ RowsR W o f l c p i ∧ ObSz o := by
  refine (P.opens_struct Try.underlying26 (fieldR W) fun j f hj => ?_).mono fun cs ⟨hl, h⟩ => ?_
  · match j, hj with
    | 0, hj => simp at hj; subst hj; exact P.opens_i64 Try.underlying3
    | 1, hj => simp at hj; subst hj; exact P.opens_string Try.underlying9
    | 2, hj => simp at hj; subst hj; exact P.opens_i64 Try.underlying3
    | 3, hj => simp at hj; subst hj; exact P.opens_i64 Try.underlying3
    | 4, hj => simp at hj; subst hj; exact P.opens_bool Try.underlying4
    | 5, hj => simp at hj; subst hj; exact strs_open
    | 6, hj => simp at hj; subst hj; exact pairs_open
    | 7, hj => simp at hj; subst hj; exact strs_open
    | 8, hj => simp at hj; subst hj; exact P.opens_string Try.underlying9
    | 9, hj => simp at hj; subst hj; exact P.opens_i64 Try.underlying3
    | 10, hj => simp at hj; subst hj; exact P.opens_i64 Try.underlying3
    | 11, hj => simp at hj; subst hj; exact ints_open
    | 12, hj => simp at hj; subst hj; exact strs_open
    | 13, hj => simp at hj; subst hj; exact P.opens_string Try.underlying9
    | 14, hj => simp at hj; subst hj; exact P.opens_string Try.underlying9
    | 15, hj => simp at hj; subst hj; exact P.opens_i64 Try.underlying3
    | 16, hj => simp at hj; subst hj; exact P.opens_string Try.underlying9
    | 17, hj => simp at hj; subst hj; exact P.opens_string Try.underlying9
    | 18, hj => simp at hj; subst hj; exact P.opens_string Try.underlying9
    | k + 19, hj => simp at hj
  · rw [cells32] at hl
    obtain ⟨c0, c1, c2, c3, c4, c5, c6, c7, c8, c9, c10, c11, c12, c13, c14, c15, c16, c17, c18, rfl⟩ := nineteen hl
    have q0 : fieldR W 0 (([c0, c1, c2, c3, c4, c5, c6, c7, c8, c9, c10, c11, c12, c13, c14, c15, c16, c17, c18].drop 0).take (Try.prog.cellsOf 3)) := h 0 ⟨ "Kind", 3, 0, false, "", "", 0⟩ rfl
    rw [cells3] at q0
    obtain ⟨a0, e0, b0⟩ := q0
    simp only [List.drop_zero, List.drop_succ_cons, List.take_succ_cons, List.take_zero, List.cons.injEq, and_true] at e0
    have q1 : fieldR W 1 (([c0, c1, c2, c3, c4, c5, c6, c7, c8, c9, c10, c11, c12, c13, c14, c15, c16, c17, c18].drop 1).take (Try.prog.cellsOf 9)) := h 1 ⟨ "Name", 9, 1, false, "", "", 8⟩ rfl
    rw [cells9] at q1
    obtain ⟨a1, e1, b1⟩ := q1
    simp only [List.drop_zero, List.drop_succ_cons, List.take_succ_cons, List.take_zero, List.cons.injEq, and_true] at e1
    have q2 : fieldR W 2 (([c0, c1, c2, c3, c4, c5, c6, c7, c8, c9, c10, c11, c12, c13, c14, c15, c16, c17, c18].drop 2).take (Try.prog.cellsOf 3)) := h 2 ⟨ "UID", 3, 2, false, "", "", 24⟩ rfl
    rw [cells3] at q2
    obtain ⟨a2, e2, b2⟩ := q2
    simp only [List.drop_zero, List.drop_succ_cons, List.take_succ_cons, List.take_zero, List.cons.injEq, and_true] at e2
    have q3 : fieldR W 3 (([c0, c1, c2, c3, c4, c5, c6, c7, c8, c9, c10, c11, c12, c13, c14, c15, c16, c17, c18].drop 3).take (Try.prog.cellsOf 3)) := h 3 ⟨ "Version", 3, 3, false, "", "", 32⟩ rfl
    rw [cells3] at q3
    obtain ⟨a3, e3, b3⟩ := q3
    simp only [List.drop_zero, List.drop_succ_cons, List.take_succ_cons, List.take_zero, List.cons.injEq, and_true] at e3
    have q4 : fieldR W 4 (([c0, c1, c2, c3, c4, c5, c6, c7, c8, c9, c10, c11, c12, c13, c14, c15, c16, c17, c18].drop 4).take (Try.prog.cellsOf 4)) := h 4 ⟨ "Deleting", 4, 4, false, "", "", 40⟩ rfl
    rw [cells4] at q4
    obtain ⟨a4, e4⟩ := q4
    simp only [List.drop_zero, List.drop_succ_cons, List.take_succ_cons, List.take_zero, List.cons.injEq, and_true] at e4
    have q5 : fieldR W 5 (([c0, c1, c2, c3, c4, c5, c6, c7, c8, c9, c10, c11, c12, c13, c14, c15, c16, c17, c18].drop 5).take (Try.prog.cellsOf 22)) := h 5 ⟨ "Finalizers", 22, 5, false, "", "", 48⟩ rfl
    rw [cells28] at q5
    obtain ⟨a5, A5, d5, e5, b5, q5, r5⟩ := q5
    simp only [List.drop_zero, List.drop_succ_cons, List.take_succ_cons, List.take_zero, List.cons.injEq, and_true] at e5
    have q6 : fieldR W 6 (([c0, c1, c2, c3, c4, c5, c6, c7, c8, c9, c10, c11, c12, c13, c14, c15, c16, c17, c18].drop 6).take (Try.prog.cellsOf 23)) := h 6 ⟨ "Labels", 23, 6, false, "", "", 72⟩ rfl
    rw [cells29] at q6
    obtain ⟨a6, A6, d6, e6, b6, q6, r6⟩ := q6
    simp only [List.drop_zero, List.drop_succ_cons, List.take_succ_cons, List.take_zero, List.cons.injEq, and_true] at e6
    have q7 : fieldR W 7 (([c0, c1, c2, c3, c4, c5, c6, c7, c8, c9, c10, c11, c12, c13, c14, c15, c16, c17, c18].drop 7).take (Try.prog.cellsOf 22)) := h 7 ⟨ "CIDRs", 22, 7, false, "", "", 96⟩ rfl
    rw [cells28] at q7
    obtain ⟨a7, A7, d7, e7, b7, q7, r7⟩ := q7
    simp only [List.drop_zero, List.drop_succ_cons, List.take_succ_cons, List.take_zero, List.cons.injEq, and_true] at e7
    have q8 : fieldR W 8 (([c0, c1, c2, c3, c4, c5, c6, c7, c8, c9, c10, c11, c12, c13, c14, c15, c16, c17, c18].drop 8).take (Try.prog.cellsOf 9)) := h 8 ⟨ "Status", 9, 8, false, "", "", 120⟩ rfl
    rw [cells9] at q8
    obtain ⟨a8, e8, b8⟩ := q8
    simp only [List.drop_zero, List.drop_succ_cons, List.take_succ_cons, List.take_zero, List.cons.injEq, and_true] at e8
    have q9 : fieldR W 9 (([c0, c1, c2, c3, c4, c5, c6, c7, c8, c9, c10, c11, c12, c13, c14, c15, c16, c17, c18].drop 9).take (Try.prog.cellsOf 3)) := h 9 ⟨ "Type", 3, 9, false, "", "", 136⟩ rfl
    rw [cells3] at q9
    obtain ⟨a9, e9, b9⟩ := q9
    simp only [List.drop_zero, List.drop_succ_cons, List.take_succ_cons, List.take_zero, List.cons.injEq, and_true] at e9
    have q10 : fieldR W 10 (([c0, c1, c2, c3, c4, c5, c6, c7, c8, c9, c10, c11, c12, c13, c14, c15, c16, c17, c18].drop 10).take (Try.prog.cellsOf 3)) := h 10 ⟨ "Policy", 3, 10, false, "", "", 144⟩ rfl
    rw [cells3] at q10
    obtain ⟨a10, e10, b10⟩ := q10
    simp only [List.drop_zero, List.drop_succ_cons, List.take_succ_cons, List.take_zero, List.cons.injEq, and_true] at e10
    have q11 : fieldR W 11 (([c0, c1, c2, c3, c4, c5, c6, c7, c8, c9, c10, c11, c12, c13, c14, c15, c16, c17, c18].drop 11).take (Try.prog.cellsOf 24)) := h 11 ⟨ "Families", 24, 11, false, "", "", 152⟩ rfl
    rw [cells30] at q11
    obtain ⟨a11, A11, d11, e11, b11, q11, r11⟩ := q11
    simp only [List.drop_zero, List.drop_succ_cons, List.take_succ_cons, List.take_zero, List.cons.injEq, and_true] at e11
    have q12 : fieldR W 12 (([c0, c1, c2, c3, c4, c5, c6, c7, c8, c9, c10, c11, c12, c13, c14, c15, c16, c17, c18].drop 12).take (Try.prog.cellsOf 22)) := h 12 ⟨ "IPs", 22, 12, false, "", "", 176⟩ rfl
    rw [cells28] at q12
    obtain ⟨a12, A12, d12, e12, b12, q12, r12⟩ := q12
    simp only [List.drop_zero, List.drop_succ_cons, List.take_succ_cons, List.take_zero, List.cons.injEq, and_true] at e12
    have q13 : fieldR W 13 (([c0, c1, c2, c3, c4, c5, c6, c7, c8, c9, c10, c11, c12, c13, c14, c15, c16, c17, c18].drop 13).take (Try.prog.cellsOf 9)) := h 13 ⟨ "V4", 9, 13, false, "", "", 200⟩ rfl
    rw [cells9] at q13
    obtain ⟨a13, e13, b13⟩ := q13
    simp only [List.drop_zero, List.drop_succ_cons, List.take_succ_cons, List.take_zero, List.cons.injEq, and_true] at e13
    have q14 : fieldR W 14 (([c0, c1, c2, c3, c4, c5, c6, c7, c8, c9, c10, c11, c12, c13, c14, c15, c16, c17, c18].drop 14).take (Try.prog.cellsOf 9)) := h 14 ⟨ "V6", 9, 14, false, "", "", 216⟩ rfl
    rw [cells9] at q14
    obtain ⟨a14, e14, b14⟩ := q14
    simp only [List.drop_zero, List.drop_succ_cons, List.take_succ_cons, List.take_zero, List.cons.injEq, and_true] at e14
    have q15 : fieldR W 15 (([c0, c1, c2, c3, c4, c5, c6, c7, c8, c9, c10, c11, c12, c13, c14, c15, c16, c17, c18].drop 15).take (Try.prog.cellsOf 3)) := h 15 ⟨ "HostBits", 3, 15, false, "", "", 232⟩ rfl
    rw [cells3] at q15
    obtain ⟨a15, e15, b15⟩ := q15
    simp only [List.drop_zero, List.drop_succ_cons, List.take_succ_cons, List.take_zero, List.cons.injEq, and_true] at e15
    have q16 : fieldR W 16 (([c0, c1, c2, c3, c4, c5, c6, c7, c8, c9, c10, c11, c12, c13, c14, c15, c16, c17, c18].drop 16).take (Try.prog.cellsOf 9)) := h 16 ⟨ "Selector", 9, 16, false, "", "", 240⟩ rfl
    rw [cells9] at q16
    obtain ⟨a16, e16, b16⟩ := q16
    simp only [List.drop_zero, List.drop_succ_cons, List.take_succ_cons, List.take_zero, List.cons.injEq, and_true] at e16
    have q17 : fieldR W 17 (([c0, c1, c2, c3, c4, c5, c6, c7, c8, c9, c10, c11, c12, c13, c14, c15, c16, c17, c18].drop 17).take (Try.prog.cellsOf 9)) := h 17 ⟨ "About", 9, 17, false, "", "", 256⟩ rfl
    rw [cells9] at q17
    obtain ⟨a17, e17, b17⟩ := q17
    simp only [List.drop_zero, List.drop_succ_cons, List.take_succ_cons, List.take_zero, List.cons.injEq, and_true] at e17
    have q18 : fieldR W 18 (([c0, c1, c2, c3, c4, c5, c6, c7, c8, c9, c10, c11, c12, c13, c14, c15, c16, c17, c18].drop 18).take (Try.prog.cellsOf 9)) := h 18 ⟨ "Reason", 9, 18, false, "", "", 272⟩ rfl
    rw [cells9] at q18
    obtain ⟨a18, e18, b18⟩ := q18
    simp only [List.drop_zero, List.drop_succ_cons, List.take_succ_cons, List.take_zero, List.cons.injEq, and_true] at e18
    subst e0 e1 e2 e3 e4 e5 e6 e7 e8 e9 e10 e11 e12 e13 e14 e15 e16 e17 e18
    refine ⟨⟨a0, a1, a2, a3, a4, a5, a6, a7, a8, a9, a10, a11, a12, a13, a14, a15, a16, a17, a18⟩, ⟨A5, d5⟩, ⟨A6, d6⟩, ⟨A7, d7⟩, ⟨A11, d11⟩, ⟨A12, d12⟩, rfl, ⟨r5, r6, r7, r11, r12⟩, ⟨?_, ?_, q6, b5, b6, b7, b11, b12⟩⟩
    · intro n hn
      simp only [List.mem_append, List.mem_cons, List.not_mem_nil, or_false] at hn
      rcases hn with (rfl | rfl | rfl | rfl | rfl | rfl) | hn
      · exact b0
      · exact b2
      · exact b3
      · exact b9
      · exact b10
      · exact b15
      · exact q11 n hn
    · intro n hn
      simp only [List.mem_append, List.mem_cons, List.not_mem_nil, or_false] at hn
      rcases hn with (((rfl | rfl | rfl | rfl | rfl | rfl | rfl) | hn) | hn) | hn
      · exact b1
      · exact b8
      · exact b13
      · exact b14
      · exact b16
      · exact b17
      · exact b18
      · exact q5 n hn
      · exact q7 n hn
      · exact q12 n hn
end
/-- an argument of an object -/
theorem ob_arg {H : Type} {enc : TypeId × Value → H} {W : World} {base : Nat} {sp : Nat → Bool} {held : Bool} {v : Value} {d : DataW H} {ps : List MemPlace} {ts : List TypeId} {ds : List (DataW H)} {j : Nat}
    (h : DataW.Trod enc Try.prog W base sp held 26 v d ps) (hs : (DataW.weightsEach Try.prog ts ds).all (· ≤ reachBytes) = true) (ht : ts[j]? = some 26) (hd : ds[j]? = some d) : ∃ (o : Ob) (f l c p i : Sl), v = .agg (oc o f l c p i) ∧ RowsR W o f l c p i ∧ ObSz o := by
  obtain ⟨fuel, hf⟩ := h
  obtain ⟨o, f, l, c, p, i, hc, hr, hz⟩ := ob_open _ _ _ hf (P.sz_of hs ht hd)
  exact ⟨o, f, l, c, p, i, P.agg_of hc (by simp [oc]), hr, hz⟩
end Go.Proofs.Ytmbmnldheilffaa
