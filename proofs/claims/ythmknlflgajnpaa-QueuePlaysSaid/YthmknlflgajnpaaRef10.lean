/- The walks of the reference's queue: Tick where nothing waits; does on a queue that is not there; QueueNil. -/
import Derived.Test.YthmknlflgajnpaaRef9
namespace Go.Proofs.Ythmknlflgajnpaa
open Go.RowKit
def clamp0 (n : Int) : Int := if n < 0 then 0 else clampS n
/-- the clock is stored -/
theorem RInv.clock {B rb : Nat} {s : RS} {v : RV} {w : World} (h : RInv B rb s v w) (x : Int) : RStep B rb v w { s with now := x } (w.setCell ⟨rb, 2, none⟩ (.int .i64 x)) := by
  have kp : ∀ j, j ≠ rb → (w.setCell ⟨rb, 2, none⟩ (.int .i64 x)).heap[j]? = w.heap[j]? := fun j hj => Below.heap_setCell _ _ _ _ hj
  refine RStep.of ⟨?_, h.hB, fun i => ?_, h.apart⟩ (fr_set w rb 2 _ (.inl rfl))
  · rw [heap_setCell_same _ _ _ _ _ _ h.cells]
    simp [rcells]
  · exact owns_kept (h.rows i) fun j hj => kp j (fun e => h.off i (e ▸ hj))
set_option maxRecDepth 100000 in
set_option maxHeartbeats 2000000 in
theorem rtick_empty (B rb : Nat) (s : RS) (v : RV) (m : Int) (w : World) (h : RInv B rb s v w) (hnow : 0 ≤ s.now ∧ s.now ≤ 1099511627776) (hw : s.waits = []) :
    Calls Try.prog 36 #[.pointer (some ⟨rb, 0, none⟩), .int .i64 m] w fun e w' => e = .returned (.tuple #[]) ∧ RStep B rb v w { s with now := s.now + clamp0 m } w' := by
  obtain ⟨A, c, hv⟩ := owns_shape (h.rows 3)
  have hn0 : s.n 3 = 0 := by simp [RS.n, hw]
  rw [hn0] at hv
  have c2 := h.c2
  have c6 := h.c6
  rw [hv] at c6
  have f2 := h.free 2
  have hlt := h.lt
  obtain ⟨D, hD⟩ : ∃ D, D = s.now + clamp0 m := ⟨_, rfl⟩
  rw [← hD]
  have hq := h.clock D
  have HQ := Lib.hid hq
  have h01 := hnow.1
  have h02 := hnow.2
  have e6 : (w.setCell ⟨rb, 2, none⟩ (.int .i64 D)).cell? ⟨rb, 6, none⟩ = some (.slice A 0 c) := by
    obtain ⟨v', q1, _, _⟩ := hq
    have hx := heap_setCell_same w rb 2 _ _ (.int .i64 D) h.cells
    simp [World.cell?, hx, rcells, hv]
  have E6 := Lib.hid e6
  clear h hv hn0 hw hq hnow e6
  by_cases h1 : m < 0
  · have h1' : decide (m < 0) = true := decide_eq_true h1
    have hw1 : IntKind.i64.wrap s.now = D := by rw [w64 _ (by omega) (by omega), hD, clamp0, if_pos h1]; omega
    clear h1 hD
    go_enter Try.func36, Try.ntmps36
    go_wp2
    go_loopw [4] (fun _ wr => wr = w.setCell ⟨rb, 2, none⟩ (.int .i64 D)) (fun _ _ => 0)
    case atStart => first | rfl | trivial
    case round =>
      subst hrel
      have e6 := E6.out
      go_wp2
      refine bodyPost_end (results_none rfl _ _ _) rfl ⟨rfl, HQ.out⟩
  · have h1' : decide (m < 0) = false := decide_eq_false h1
    by_cases h2 : 1048576 < m
    · have h2' : decide (1048576 < m) = true := decide_eq_true h2
      have hw1 : IntKind.i64.wrap (s.now + 1048576) = D := by rw [w64 _ (by omega) (by omega), hD, clamp0, if_neg h1, clampS, if_pos h2]
      clear h1 h2 hD
      go_enter Try.func36, Try.ntmps36
      go_wp2
      go_loopw [4] (fun _ wr => wr = w.setCell ⟨rb, 2, none⟩ (.int .i64 D)) (fun _ _ => 0)
      case atStart => first | rfl | trivial
      case round =>
        subst hrel
        have e6 := E6.out
        go_wp2
        refine bodyPost_end (results_none rfl _ _ _) rfl ⟨rfl, HQ.out⟩
    · have h2' : decide (1048576 < m) = false := decide_eq_false h2
      have hw1 : IntKind.i64.wrap (s.now + m) = D := by rw [w64 _ (by omega) (by omega), hD, clamp0, if_neg h1, clampS, if_neg h2]
      clear h1 h2 hD
      go_enter Try.func36, Try.ntmps36
      go_wp2
      go_loopw [4] (fun _ wr => wr = w.setCell ⟨rb, 2, none⟩ (.int .i64 D)) (fun _ _ => 0)
      case atStart => first | rfl | trivial
      case round =>
        subst hrel
        have e6 := E6.out
        go_wp2
        refine bodyPost_end (results_none rfl _ _ _) rfl ⟨rfl, HQ.out⟩
end Go.Proofs.Ythmknlflgajnpaa
