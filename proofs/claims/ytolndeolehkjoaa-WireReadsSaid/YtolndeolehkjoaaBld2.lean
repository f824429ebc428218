/- The walks of the library's text builder at this seat: a byte is written, and what was written is told. T: the type of the block in which the builder lies. -/
import Derived.Test.YtolndeolehkjoaaBld
namespace Go.Proofs.Ytolndeolehkjoaa.B
set_option linter.unusedVariables false
set_option linter.unusedSimpArgs false
open Go.RowKit
set_option maxHeartbeats 2000000 in
set_option maxRecDepth 100000 in
theorem writeByte (T : TypeId) (hT : Lies T) (hne5 : T ≠ 5) (B b : Nat) (bs : List Value) (c : Int) (w : World) (h : Lib.IsBuilder T 5 B b bs w) (hlen : bs.length + 1 ≤ 140737488355328) (hBw : B ≤ w.heap.size) :
    Calls Try.prog 94 #[.pointer (some ⟨b, 0, none⟩), .int .u8 c] w fun e w' => e = .returned .nilIface ∧ (Lib.IsBuilder T 5 B b (bs ++ [.int .u8 c]) w' ∧ Below B w w') := by
  go_enter Try.func94, Try.ntmps94
  go_wp2_with (fail)
  refine (check T hT B b bs _ h).mono ?_
  rintro e w1 ⟨rfl, h1, hb1⟩
  obtain ⟨hB, v, hbk, hown, hne⟩ := h1
  have c0 : w1.cell? ⟨b, 0, none⟩ = some (.pointer (some ⟨b, 0, none⟩)) := by rw [Lib.cell_of_heap hbk]; rfl
  have c1 : w1.cell? ⟨b, 1, none⟩ = some v := by rw [Lib.cell_of_heap hbk]; rfl
  have hl63 : bs.length + 1 ≤ maxLen := by unfold maxLen; omega
  have hl16 : (bs.length + 1) * 1 ≤ 140737488355328 := by omega
  have hBs : B ≤ w1.heap.size := by have := hb1.size; omega
  have HO := Lib.hid hown
  have HK := Lib.hid hbk
  have HB1 := Lib.hid hb1
  clear hown hbk hb1 h
  go_wp2_with (at_builtin; refine G.app_one rfl _ _ 67 5 rfl B 1 1 _ Try.underlying67 infoByte rfl (by decide) v bs.length bs [.int .u8 c] rfl rfl rfl (by intro u hu; simp only [List.mem_singleton] at hu; subst hu; rfl) HO.out hBs hl63 hl16 ?_)
  intro v' w2 hown' hgrow
  have hlt : b < w1.heap.size := (Array.getElem?_eq_some_iff.1 HK.out).1
  have hb2 : w2.heap[b]? = some (.cells #[.pointer (some ⟨b, 0, none⟩), v] T (0, 0)) := by
    rw [hgrow.block b hlt (fun e => hne e.symm)]
    exact HK.out
  have d0 : w2.cell? ⟨b, 0, none⟩ = some (.pointer (some ⟨b, 0, none⟩)) := by rw [Lib.cell_of_heap hb2]; rfl
  have d1 : w2.cell? ⟨b, 1, none⟩ = some v := by rw [Lib.cell_of_heap hb2]; rfl
  have f1 : w2.frozen? ⟨b, 1, none⟩ = false := Lib.frozen_of_heap hb2 1
  obtain ⟨ao, n', cap, rfl⟩ : ∃ ao n' cap, v' = .slice ao n' cap := by
    rcases hown'.2 with ⟨hv, _⟩ | ⟨g, cap, cur, hv, _⟩
    · exact ⟨_, _, _, hv⟩
    · exact ⟨_, _, _, hv⟩
  have HO2 := Lib.hid hown'
  have HG := Lib.hid hgrow
  have HB2 := Lib.hid hb2
  clear hown' hgrow hb2
  go_wp2
  go_ret
  refine ⟨rfl, .inr ?_, ?_⟩
  · exact Lib.BuilderAt.put (T := T) (e := 5) hB HB2.out (bs' := bs ++ [.int .u8 c]) (by simpa using HO2.out) hne5
  · exact (HB1.out.grown HG.out hBs (fun k hk => (HO.out.lt k hk).1)).setCell (p := ⟨b, 1, none⟩) hB _
theorem cellsByte : Try.prog.cellsOf 5 = 1 := by kernel_rfl
set_option maxHeartbeats 2000000 in
set_option maxRecDepth 100000 in
theorem string_any (T B b : Nat) (l : List UInt8) (w : World) (h : Lib.IsBuilder T 5 B b (Lib.byteCells l) w) (h0 : l ≠ []) :
    Calls Try.prog 43 #[.pointer (some ⟨b, 0, none⟩)] w fun e w' => e = .returned (.string ⟨l.toArray⟩) ∧ Below B w w' := by
  obtain ⟨p, hB, v, hbk, hown, hne⟩ : ∃ p, Lib.BuilderAt T 5 B b p (Lib.byteCells l) w := by
    rcases h with h | h
    · exact ⟨_, h⟩
    · exact ⟨_, h⟩
  have hl0 : l.length ≠ 0 := by simpa using h0
  rw [Lib.byteCells_length] at hown
  obtain ⟨g, cap, cur, rfl, hbg, hg, hnc, hcm, hcs, htake⟩ : ∃ g cap cur, v = .slice (some ⟨g, 0, none⟩) l.length cap ∧ B ≤ g ∧ w.heap[g]? = some (.cells cur 5 (0, 0)) ∧ l.length ≤ cap ∧ cap ≤ maxLen ∧ cur.size = cap * 1 ∧ cur.toList.take (l.length * 1) = Lib.byteCells l := by
    rcases hown.2 with ⟨_, hz⟩ | ⟨g, cap, cur, hv, r⟩
    · exact absurd hz hl0
    · exact ⟨g, cap, cur, hv, r⟩
  have c1 : w.drew.cell? ⟨b, 1, none⟩ = some (.slice (some ⟨g, 0, none⟩) l.length cap) := by
    rw [Lib.cell_of_heap (show w.drew.heap[b]? = _ from hbk)]; rfl
  have hSD : (Builtin.unsafeSliceData_ #[67] 111 #[.slice (some ⟨g, 0, none⟩) l.length cap]).run Try.prog w.drew = .ok (.pointer (some ⟨g, 0, none⟩)) w.drew :=
    Lib.run_unsafeSliceData_row _ _ _ _ _ _ (by omega)
  have hUS : (Builtin.unsafeString_ #[111, 3] 9 #[.pointer (some ⟨g, 0, none⟩), .int .i64 l.length]).run Try.prog w.drew = .ok (.string ⟨l.toArray⟩) (w.drew.freeze ⟨g, 0, none⟩ l.length) := by
    refine Lib.run_unsafeString_row w.drew 111 3 9 5 Try.underlying111 cellsByte g cur.size (by have hg' : w.drew.heap[g]? = some (.cells cur 5 (0, 0)) := hg; simp [World.shape?, hg']) l h0 (by omega) (by unfold maxLen at hcm; omega) ?_
    intro j x hx
    exact hown.cells (g := g) rfl j (.int .u8 x.toNat) (by simp [Lib.byteCells, hx])
  have HBG := Lib.hid hbg
  clear hown hne hcs htake hg hbk h
  go_enter Try.func43, Try.ntmps43
  go_wp2
  go_region
  all_goals (go_wp2; go_ret; exact ⟨rfl, Lib.below_freeze (Below.drew (Below.refl B w)) (p := ⟨g, 0, none⟩) HBG.out _⟩)
end Go.Proofs.Ytolndeolehkjoaa.B
