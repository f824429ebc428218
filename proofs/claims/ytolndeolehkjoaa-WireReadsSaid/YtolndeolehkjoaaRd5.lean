/- The reader of bytes: a pair of texts. -/
import Derived.Test.YtolndeolehkjoaaRd4
namespace Go.Proofs.Ytolndeolehkjoaa
set_option linter.unusedVariables false
set_option linter.unusedSimpArgs false
open Go.RowKit CodP
theorem RdAt.drew {w : World} {rb : Nat} {s : ByteArray} {st : RSt} (h : RdAt w rb s st) : RdAt w.drew rb s st := ⟨h.is, h.le, h.sz⟩
theorem RdAt.drewN {w : World} {rb : Nat} {s : ByteArray} {st : RSt} (h : RdAt w rb s st) (n : Nat) : RdAt (w.drewN n) rb s st := ⟨h.is, h.le, h.sz⟩
theorem RdAt.alloc {w : World} {rb : Nat} {s : ByteArray} {st : RSt} (h : RdAt w rb s st) (o : Obj) : RdAt (w.alloc o) rb s st := h.below ((Below.refl _ _).alloc (Nat.le_refl _) _)
theorem Box.alloc {w : World} {xb rb : Nat} (h : Box w xb rb) (o : Obj) : Box (w.alloc o) xb rb := h.grown (World.grownBy_alloc _ _ _)
theorem RdAt.other {w : World} {rb j : Nat} {s : ByteArray} {st : RSt} (h : RdAt w rb s st) (hj : j ≠ rb) (i : Nat) (v : Value) : RdAt (w.setCell ⟨j, i, none⟩ v) rb s st :=
  ⟨(Below.heap_setCell _ _ _ _ (fun e => hj e.symm)).trans h.is, h.le, h.sz⟩
theorem Box.other {w : World} {xb rb j : Nat} (h : Box w xb rb) (hj : j ≠ xb) (i : Nat) (v : Value) : Box (w.setCell ⟨j, i, none⟩ v) xb rb :=
  ⟨(Below.heap_setCell _ _ _ _ (fun e => hj e.symm)).trans h.is, h.ne⟩
theorem _root_.Go.World.grownBy.setNew {w w1 : World} {k : Option Nat} (h : w.grownBy w1 k) {j : Nat} (hj : w.heap.size ≤ j) (i : Nat) (v : Value) : w.grownBy (w1.setCell ⟨j, i, none⟩ v) k :=
  ⟨h.os, h.tape, h.output, by simpa [World.setCell] using h.size, fun a ha hk => (Below.heap_setCell _ _ _ _ (fun e => by simp only at e; omega)).trans (h.block a ha hk)⟩
theorem size102 : (Try.prog.info? 102).map (·.size) = some 2 := by kernel_rfl
theorem cellk {cs : Array Value} {T : TypeId} (w : World) (j : Nat) (h : w.heap[j]? = some (.cells cs T (0, 0))) (i : Nat) (hi : i < cs.size) : w.cell? ⟨j, i, none⟩ = some cs[i] := by simp [World.cell?, h, hi]
theorem frozk {cs : Array Value} {T : TypeId} (w : World) (j : Nat) (h : w.heap[j]? = some (.cells cs T (0, 0))) (i : Nat) : w.frozen? ⟨j, i, none⟩ = false := by simp [World.frozen?, h]
set_option maxRecDepth 100000 in
set_option maxHeartbeats 1000000 in
theorem onepair_any (rb xb : Nat) (s : ByteArray) (st : RSt) (w : World) (h : RdAt w rb s st) (hx : Box w xb rb) :
    Calls Try.prog 78 #[.pointer (some ⟨xb, 0, none⟩)] w fun x w' => x = .returned (.agg #[.string (pairI s st).1.1, .string (pairI s st).1.2]) ∧ RdAt w' rb s (pairI s st).2 ∧ w.grownBy w' (some rb) := by
  obtain ⟨w0, hw0⟩ : ∃ w0, w0 = w.alloc (.cells #[.string ⟨#[]⟩, .string ⟨#[]⟩] 102) := ⟨_, rfl⟩
  have h0 : RdAt w0 rb s st := by rw [hw0]; exact h.alloc _
  have x0 : Box w0 xb rb := by rw [hw0]; exact hx.alloc _
  have p0 : w0.heap[w.heap.size]? = some (.cells #[.string ⟨#[]⟩, .string ⟨#[]⟩] 102 (0, 0)) := by rw [hw0]; exact G.heap_new _ _
  have g0 : w.grownBy w0 (some rb) := by rw [hw0]; exact World.grownBy_alloc _ _ _
  have hlt := h.lt
  have hne : w.heap.size ≠ rb := by omega
  have cx := x0.cell
  have H0 := Lib.hid h0
  have X0 := Lib.hid x0
  have P0 := Lib.hid p0
  have G0 := Lib.hid g0
  have HW := Lib.hid hw0
  have L0 := Lib.hid (show w.heap.size < w0.heap.size by rw [hw0]; simp)
  have HN := Lib.hid (show some w.heap.size ≠ some rb from fun e => hne (by injection e))
  have HNE := Lib.hid hne
  clear h hx h0 x0 p0 g0 hlt hw0 hne
  go_enter Try.func78, Try.ntmps78
  go_wp2_with (fail)
  rw [← HW.out]
  go_region_with (first
    | (go_at_call 74; refine (text_any rb s _ _ H1.out).mono ?_; rintro e w2 ⟨rfl, h2, g2⟩; have H2 := Lib.hid h2; have G2 := Lib.hid g2; have P2 := Lib.hid ((g2.block _ L1.out HN.out).trans P1.out); have k0 := cellk w2 _ P2.out 0 (by decide); have k1 := cellk w2 _ P2.out 1 (by decide); have k2 := frozk w2 _ P2.out 0; have k3 := frozk w2 _ P2.out 1; clear h2 g2)
    | (go_at_call 74; refine (text_any rb s st _ H0.out.drew).mono ?_; rintro e w1 ⟨rfl, h1, g1⟩; have H1 := Lib.hid h1; have G1 := Lib.hid g1; have cx1 := (X0.out.grown (w1 := w1) ⟨g1.os, g1.tape, g1.output, g1.size, g1.block⟩).cell; have P1 := Lib.hid ((g1.block w.heap.size L0.out HN.out).trans P0.out); have L1 := Lib.hid (Nat.lt_of_lt_of_le L0.out g1.size); clear h1 g1))
  all_goals
    have q3 : ((w2.setCell ⟨w.heap.size, 0, none⟩ (.string (textI s st).1)).setCell ⟨w.heap.size, 1, none⟩ (.string (textI s (textI s st).2).1)).heap[w.heap.size]? = some (.cells #[.string (textI s st).1, .string (textI s (textI s st).2).1] 102 (0, 0)) := by
      rw [heap_setCell_same _ _ _ _ _ _ (heap_setCell_same _ _ _ _ _ _ P2.out)]; rfl
    have r3 : RdAt ((w2.setCell ⟨w.heap.size, 0, none⟩ (.string (textI s st).1)).setCell ⟨w.heap.size, 1, none⟩ (.string (textI s (textI s st).2).1)) rb s (textI s (textI s st).2).2 := (H2.out.other HNE.out _ _).other HNE.out _ _
    have g3 : w.grownBy ((w2.setCell ⟨w.heap.size, 0, none⟩ (.string (textI s st).1)).setCell ⟨w.heap.size, 1, none⟩ (.string (textI s (textI s st).2).1)) (some rb) := by
      have g1 : w0.grownBy w2 (some rb) := World.grownBy.trans ⟨G1.out.os, G1.out.tape, G1.out.output, G1.out.size, G1.out.block⟩ G2.out
      exact ((G0.out.trans g1).setNew (Nat.le_refl _) _ _).setNew (Nat.le_refl _) _ _
    obtain ⟨w3, hw3⟩ : ∃ w3, w3 = (w2.setCell ⟨w.heap.size, 0, none⟩ (.string (textI s st).1)).setCell ⟨w.heap.size, 1, none⟩ (.string (textI s (textI s st).2).1) := ⟨_, rfl⟩
    rw [← hw3] at q3 r3 g3 ⊢
    have R3 := Lib.hid r3
    have G3 := Lib.hid g3
    have Q3 := Lib.hid q3
    clear k0 k1 k2 k3 r3 g3 q3 hw3
    go_wp2
    exact bodyPost_ret (results_cell_row rfl _ _ w.heap.size 102 #[.string (textI s st).1, .string (textI s (textI s st).2).1] (0, 0) _ rfl Q3.out Try.underlying102 rfl size102) rfl ⟨rfl, R3.out, G3.out⟩
end Go.Proofs.Ytolndeolehkjoaa
