/- The law DiskNil. -/
import Derived.Test.YtdmjbdecemajpaaDl3
namespace Go.Proofs.Ytdmjbdecemajpaa.D
set_option linter.unusedVariables false
set_option linter.unusedSimpArgs false
open Go.RowKit
set_option maxRecDepth 100000 in
theorem copy_nil (w : World) : Calls Try.prog 18 #[.pointer none] w fun e w' => e = .returned (.pointer none) ∧ w = w' := by
  go_enter Try.func18, Try.ntmps18
  go_wp2
  go_ret
  exact ⟨rfl, rfl⟩
theorem box_at {w : World} {cs : Array Value} {t : TypeId} {w1 : World} (hb : Below (w.alloc (.cells cs t)).heap.size (w.alloc (.cells cs t)) w1) : w1.heap[w.heap.size]? = some (.cells cs t (0, 0)) ∧ w.heap.size < w1.heap.size ∧ Below w.heap.size w w1 := by
  have h1 := bel_allocT w (.cells cs t)
  have h0 : (w.alloc (.cells cs t)).heap.size = w.heap.size + 1 := by simp
  refine ⟨(hb.block _ (by omega)).trans (G.heap_new _ _), ?_, h1.trans (belowLe h1.size hb)⟩
  have h2 := hb.size
  omega
theorem cell_at1 {w w1 : World} {g : Nat} {v0 v1 v2 v3 v4 : Value} {t : TypeId} (hb : w1.heap[g]? = w.heap[g]?) (h : w.heap[g]? = some (.cells #[v0, v1, v2, v3, v4] t (0, 0))) : w1.cell? ⟨g, 1, none⟩ = some v1 := by
  simp [World.cell?, hb.trans h]
theorem set_size (w : World) (a : Addr) (v : Value) : (w.setCell a v).heap.size = w.heap.size := by simp [World.setCell]
set_option maxRecDepth 100000 in
set_option maxHeartbeats 4000000 in
theorem nil_law (x : Ac) (w : World) :
    Calls Try.prog 5 #[av x] w fun e w' => e = .returned (.bool true) ∧ Below w.heap.size w w' := by
  obtain ⟨⟨kind, no, n, s, picks⟩, A, c⟩ := x
  unfold av
  go_enter Try.func5, Try.ntmps5
  go_upto_region 3 with (go_at_call 6; refine (awake_any _).mono ?_; rintro e w1 ⟨rfl, hb⟩)
  obtain ⟨hx, hlt, hb1⟩ := box_at hb
  have hfr : ∀ i, w1.frozen? ⟨w.heap.size, i, none⟩ = false := fun i => by simp [World.frozen?, hx]
  have f0 := hfr 0
  have c0 : w1.cell? ⟨w.heap.size, 0, none⟩ = some (.int .i64 kind) := by simp [World.cell?, hx]
  have c1 : w1.cell? ⟨w.heap.size, 1, none⟩ = some (.int .i64 no) := by simp [World.cell?, hx]
  have HB1 := Lib.hid hb1
  clear hb hb1 hfr
  have hcase : ∃ kd : Int, (1 ≤ kd ∧ kd ≤ 7) ∧ (((kind < 1 ∨ 7 < kind) ∧ kd = 1) ∨ (¬ kind < 1 ∧ ¬ 7 < kind ∧ kind = kd)) := by
    by_cases h : kind < 1 ∨ 7 < kind
    · exact ⟨1, by omega, .inl ⟨h, rfl⟩⟩
    · exact ⟨kind, by omega, .inr ⟨by omega, by omega, rfl⟩⟩
  obtain ⟨kd, hkd, hcs⟩ := hcase
  have D1 := fun W => does_nil ⟨⟨kd, no, n, s, picks⟩, A, c⟩ W hkd
  unfold av at D1
  have HD := Lib.hid D1
  clear D1
  rcases hcs with ⟨h1 | h1, rfl⟩ | ⟨h1, h2, rfl⟩
  · have hx2 : (w1.setCell ⟨w.heap.size, 0, none⟩ (.int .i64 1)).heap[w.heap.size]? = some (.cells #[.int .i64 1, .int .i64 no, .int .i64 n, .string s, .slice A picks.length c] 28 (0, 0)) := heap_setCell_same _ _ _ _ _ _ hx
    have d1 : (w1.setCell ⟨w.heap.size, 0, none⟩ (.int .i64 1)).cell? ⟨w.heap.size, 1, none⟩ = some (.int .i64 no) := cell_at1 rfl hx2
    have d2 : (w1.setCell ⟨w.heap.size, 0, none⟩ (.int .i64 1)).cell? ⟨w.heap.size, 2, none⟩ = some (.int .i64 n) := by simp [World.cell?, hx2]
    have d3 : (w1.setCell ⟨w.heap.size, 0, none⟩ (.int .i64 1)).cell? ⟨w.heap.size, 3, none⟩ = some (.string s) := by simp [World.cell?, hx2]
    have d4 : (w1.setCell ⟨w.heap.size, 0, none⟩ (.int .i64 1)).cell? ⟨w.heap.size, 4, none⟩ = some (.slice A picks.length c) := by simp [World.cell?, hx2]
    have HX := Lib.hid hx2
    have HB := Lib.hid (show Below w.heap.size w (w1.setCell ⟨w.heap.size, 0, none⟩ (.int .i64 1)) from HB1.out.setCell (Nat.le_refl _) _)
    clear hkd hx HB1
    go_wp2_with (first
      | (go_at_call 10; refine (read_nil _ _).mono ?_; rintro e w3 ⟨rfl, rfl⟩)
      | (go_at_call 9; refine (HD.out _).mono ?_; rintro e w3 ⟨rfl, hb3⟩
         have e1 := cell_at1 (hb3.block _ (by rw [set_size]; exact hlt)) HX.out
         have HB3 := Lib.hid (HB.out.trans (belowLe HB.out.size hb3))
         clear hb3)
      | (go_at_call 12; refine (safe_nil _ _).mono ?_; rintro e w4 ⟨rfl, rfl⟩)
      | (go_at_call 17; refine (list_nil _).mono ?_; rintro e w4 ⟨rfl, rfl⟩)
      | (go_at_call 11; refine (on_nil _).mono ?_; rintro e w4 ⟨rfl, rfl⟩)
      | (go_at_call 16; refine (steps_nil _).mono ?_; rintro e w4 ⟨rfl, rfl⟩)
      | (go_at_call 18; refine (copy_nil _).mono ?_; rintro e w4 ⟨rfl, rfl⟩))
    go_ret
    exact ⟨rfl, HB3.out⟩
  · have hx2 : (w1.setCell ⟨w.heap.size, 0, none⟩ (.int .i64 1)).heap[w.heap.size]? = some (.cells #[.int .i64 1, .int .i64 no, .int .i64 n, .string s, .slice A picks.length c] 28 (0, 0)) := heap_setCell_same _ _ _ _ _ _ hx
    have d1 : (w1.setCell ⟨w.heap.size, 0, none⟩ (.int .i64 1)).cell? ⟨w.heap.size, 1, none⟩ = some (.int .i64 no) := cell_at1 rfl hx2
    have d2 : (w1.setCell ⟨w.heap.size, 0, none⟩ (.int .i64 1)).cell? ⟨w.heap.size, 2, none⟩ = some (.int .i64 n) := by simp [World.cell?, hx2]
    have d3 : (w1.setCell ⟨w.heap.size, 0, none⟩ (.int .i64 1)).cell? ⟨w.heap.size, 3, none⟩ = some (.string s) := by simp [World.cell?, hx2]
    have d4 : (w1.setCell ⟨w.heap.size, 0, none⟩ (.int .i64 1)).cell? ⟨w.heap.size, 4, none⟩ = some (.slice A picks.length c) := by simp [World.cell?, hx2]
    have HX := Lib.hid hx2
    have HB := Lib.hid (show Below w.heap.size w (w1.setCell ⟨w.heap.size, 0, none⟩ (.int .i64 1)) from HB1.out.setCell (Nat.le_refl _) _)
    clear hkd hx HB1
    go_wp2_with (first
      | (go_at_call 10; refine (read_nil _ _).mono ?_; rintro e w3 ⟨rfl, rfl⟩)
      | (go_at_call 9; refine (HD.out _).mono ?_; rintro e w3 ⟨rfl, hb3⟩
         have e1 := cell_at1 (hb3.block _ (by rw [set_size]; exact hlt)) HX.out
         have HB3 := Lib.hid (HB.out.trans (belowLe HB.out.size hb3))
         clear hb3)
      | (go_at_call 12; refine (safe_nil _ _).mono ?_; rintro e w4 ⟨rfl, rfl⟩)
      | (go_at_call 17; refine (list_nil _).mono ?_; rintro e w4 ⟨rfl, rfl⟩)
      | (go_at_call 11; refine (on_nil _).mono ?_; rintro e w4 ⟨rfl, rfl⟩)
      | (go_at_call 16; refine (steps_nil _).mono ?_; rintro e w4 ⟨rfl, rfl⟩)
      | (go_at_call 18; refine (copy_nil _).mono ?_; rintro e w4 ⟨rfl, rfl⟩))
    go_ret
    exact ⟨rfl, HB3.out⟩
  · have d2 : w1.cell? ⟨w.heap.size, 2, none⟩ = some (.int .i64 n) := by simp [World.cell?, hx]
    have d3 : w1.cell? ⟨w.heap.size, 3, none⟩ = some (.string s) := by simp [World.cell?, hx]
    have d4 : w1.cell? ⟨w.heap.size, 4, none⟩ = some (.slice A picks.length c) := by simp [World.cell?, hx]
    have HX := Lib.hid hx
    have HB := HB1
    clear hkd HB1
    go_wp2_with (first
      | (go_at_call 10; refine (read_nil _ _).mono ?_; rintro e w3 ⟨rfl, rfl⟩)
      | (go_at_call 9; refine (HD.out _).mono ?_; rintro e w3 ⟨rfl, hb3⟩
         have e1 := cell_at1 (hb3.block _ (by exact hlt)) HX.out
         have HB3 := Lib.hid (HB.out.trans (belowLe HB.out.size hb3))
         clear hb3)
      | (go_at_call 12; refine (safe_nil _ _).mono ?_; rintro e w4 ⟨rfl, rfl⟩)
      | (go_at_call 17; refine (list_nil _).mono ?_; rintro e w4 ⟨rfl, rfl⟩)
      | (go_at_call 11; refine (on_nil _).mono ?_; rintro e w4 ⟨rfl, rfl⟩)
      | (go_at_call 16; refine (steps_nil _).mono ?_; rintro e w4 ⟨rfl, rfl⟩)
      | (go_at_call 18; refine (copy_nil _).mono ?_; rintro e w4 ⟨rfl, rfl⟩))
    go_ret
    exact ⟨rfl, HB3.out⟩
end Go.Proofs.Ytdmjbdecemajpaa.D
