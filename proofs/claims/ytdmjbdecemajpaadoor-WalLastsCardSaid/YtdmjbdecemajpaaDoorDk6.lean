/- The walks of the disk: New, Read, Safe, Fuse, Cut, On, Steps; a disk that is not there. -/
import Derived.Test.YtdmjbdecemajpaaDoorDk4
namespace Go.Proofs.YtdmjbdecemajpaaDoor.D
set_option linter.unusedVariables false
set_option linter.unusedSimpArgs false
open Go.RowKit
def DS0 : DS := ⟨[], false, 0, 0⟩
theorem new_any (w : World) : Calls Tryd.prog 30 #[] w fun e w' => ∃ db m, e = .returned (.pointer (some ⟨db, 0, none⟩)) ∧ DInv w.heap.size db m DS0 w' ∧ Below w.heap.size w w' := by
  have hmm : ∀ W : World, (Instr.makeMap 79 none).run Tryd.prog W = .ok (.map (some W.heap.size)) (W.alloc (.map #[] 0)) := fun W => rfl
  have hb := Lib.hid (G.bthen (bel_allocT w (.map #[] 0)) (bel_allocT (w.alloc (.map #[] 0)) (.cells #[.map (some w.heap.size), .bool false, .int .i64 0, .int .i64 0] 81)))
  have hI := Lib.hid (show DInv w.heap.size (w.heap.size + 1) w.heap.size DS0 ((w.alloc (.map #[] 0)).alloc (.cells #[.map (some w.heap.size), .bool false, .int .i64 0, .int .i64 0] 81)) from (by
    have hz : (w.alloc (.map #[] 0)).heap.size = w.heap.size + 1 := by simp
    refine ⟨?_, by omega, Nat.le_refl _, ?_⟩
    · have := G.heap_new (w.alloc (.map #[] 0)) (.cells #[.map (some w.heap.size), .bool false, .int .i64 0, .int .i64 0] 81)
      rw [hz] at this; exact this
    · exact (M.MapIs.new kv w).of_block ((bel_allocT (w.alloc (.map #[] 0)) _).block _ (by rw [hz]; omega))))
  go_enter Tryd.func30, Tryd.ntmps30
  go_wp2
  go_ret
  exact ⟨w.heap.size + 1, w.heap.size, rfl, hI.out, hb.out⟩
set_option maxRecDepth 100000 in
theorem read_any (B db m : Nat) (s : DS) (no : Int) (w : World) (h : DInv B db m s w) :
    Calls Tryd.prog 63 #[.pointer (some ⟨db, 0, none⟩), .int .i64 no] w fun e w' => e = .returned (.tuple #[.string (readT s no), .bool (readB s no)]) ∧ Below w.heap.size w w' := by
  have c1 := h.c1
  have c0 := h.c0
  have hlt := h.lt
  cases ho : s.off
  · rw [ho] at c1
    obtain ⟨f, hf⟩ : ∃ f, (M.get s.files no).getD fl0 = f := ⟨_, rfl⟩
    obtain ⟨b, hb⟩ : ∃ b, (M.get s.files no).isSome = b := ⟨_, rfl⟩
    have lk := lookT h.map no hf hb 0
    rw [show w.drewN 0 = w from rfl] at lk
    have Ha := Lib.hid (show readT s no = f.data ∧ readB s no = b by unfold readT readB; rw [ho, DS.fl_eq hf, hb]; exact ⟨rfl, rfl⟩)
    clear h ho hf hb
    go_enter Tryd.func63, Tryd.ntmps63
    go_wp2
    go_ret2
    rw [Ha.out.1, Ha.out.2]
    exact ⟨rfl, bel_allocT _ _⟩
  · rw [ho] at c1
    have Ha := Lib.hid (show readT s no = ⟨#[]⟩ ∧ readB s no = false by unfold readT readB; rw [ho]; exact ⟨rfl, rfl⟩)
    clear h ho
    go_enter Tryd.func63, Tryd.ntmps63
    go_wp2
    go_ret2
    rw [Ha.out.1, Ha.out.2]
    exact ⟨rfl, Below.refl _ _⟩
theorem on_any (B db m : Nat) (s : DS) (w : World) (h : DInv B db m s w) :
    Calls Tryd.prog 43 #[.pointer (some ⟨db, 0, none⟩)] w fun e w' => e = .returned (.bool !s.off) ∧ w = w' := by
  have c1 := h.c1
  have hlt := h.lt
  cases ho : s.off
  all_goals
    rw [ho] at c1
    clear h ho
    go_enter Tryd.func43, Tryd.ntmps43
    go_wp2
    go_ret
    exact ⟨rfl, rfl⟩
theorem fuse_any (B db m : Nat) (s : DS) (n : Int) (w : World) (h : DInv B db m s w) :
    Calls Tryd.prog 42 #[.pointer (some ⟨db, 0, none⟩), .int .i64 n] w fun e w' => e = .returned (.int .i64 (fusE s)) ∧ DStep B db m w (fusS s n) w' := by
  have c1 := h.c1
  have hlt := h.lt
  have f2 := h.free 2
  have c2 := h.c2
  cases ho : s.off
  · rw [ho] at c1
    have key : ∀ M, max (0 : Int) n = M → Hid (DStep B db m w { s with fuse := M } (w.setCell ⟨db, 2, none⟩ (.int .i64 M))) ∧ Hid (fusE s = 0 ∧ fusS s n = { s with fuse := M }) := fun M hM =>
      ⟨Lib.hid ⟨h.set (s' := { s with fuse := M }) 2 (.int .i64 M) (by simp [dcells]) rfl, fr_set (F := Foot db m) w db 2 (.int .i64 M) (.inl rfl)⟩, Lib.hid (by unfold fusE fusS; rw [ho, ← hM]; exact ⟨rfl, rfl⟩)⟩
    by_cases hn : 0 < n
    · obtain ⟨Hs, Ha⟩ := key n (by omega)
      clear key h ho
      go_enter Tryd.func42, Tryd.ntmps42
      go_wp2
      go_ret
      rw [Ha.out.1, Ha.out.2]
      exact ⟨rfl, Hs.out⟩
    · obtain ⟨Hs, Ha⟩ := key 0 (by omega)
      have hn' : n ≤ 0 := by omega
      clear key h ho hn
      go_enter Tryd.func42, Tryd.ntmps42
      go_wp2
      go_ret
      rw [Ha.out.1, Ha.out.2]
      exact ⟨rfl, Hs.out⟩
  · rw [ho] at c1
    have Ha := Lib.hid (show fusE s = 6 ∧ fusS s n = s by unfold fusE fusS; rw [ho]; exact ⟨rfl, rfl⟩)
    have HI := Lib.hid h
    clear h ho
    go_enter Tryd.func42, Tryd.ntmps42
    go_wp2
    go_ret
    rw [Ha.out.1, Ha.out.2]
    exact ⟨rfl, DStep.same HI.out (Below.refl _ _)⟩
theorem cut_any (B db m : Nat) (s : DS) (w : World) (h : DInv B db m s w) :
    Calls Tryd.prog 31 #[.pointer (some ⟨db, 0, none⟩)] w fun e w' => e = .returned (.int .i64 (fusE s)) ∧ DStep B db m w (cutS s) w' := by
  have c1 := h.c1
  have hlt := h.lt
  have f1 := h.free 1
  have f2 := h.free 2
  have c2 := h.c2
  cases ho : s.off
  · rw [ho] at c1
    have i1 := h.set (s' := { s with off := true }) 1 (.bool true) (by simp [dcells]) rfl
    have i2 := i1.set (s' := { s with off := true, fuse := 0 }) 2 (.int .i64 0) (by simp [dcells]) rfl
    have Hs := Lib.hid (DStep.of i2 ((fr_set (F := Foot db m) w db 1 (.bool true) (.inl rfl)).trans (fr_set (F := Foot db m) _ db 2 (.int .i64 0) (.inl rfl)) (fun _ hj => .inl hj)))
    have Ha := Lib.hid (show fusE s = 0 ∧ cutS s = { s with off := true, fuse := 0 } by unfold fusE cutS; rw [ho]; exact ⟨rfl, rfl⟩)
    clear h ho i1 i2
    go_enter Tryd.func31, Tryd.ntmps31
    go_wp2
    go_ret
    rw [Ha.out.1, Ha.out.2]
    exact ⟨rfl, Hs.out⟩
  · rw [ho] at c1
    have Ha := Lib.hid (show fusE s = 6 ∧ cutS s = s by unfold fusE cutS; rw [ho]; exact ⟨rfl, rfl⟩)
    have HI := Lib.hid h
    clear h ho
    go_enter Tryd.func31, Tryd.ntmps31
    go_wp2
    go_ret
    rw [Ha.out.1, Ha.out.2]
    exact ⟨rfl, DStep.same HI.out (Below.refl _ _)⟩
theorem append_nil (no : Int) (t : ByteArray) (w : World) : Calls Tryd.prog 58 #[.pointer none, .int .i64 no, .string t] w fun e w' => e = .returned (.int .i64 2) ∧ w = w' := by
  go_enter Tryd.func58, Tryd.ntmps58
  go_wp2_with (go_at_call 66; refine (may_nil _ _ _).mono ?_; rintro e w1 ⟨rfl, rfl⟩)
  go_ret
  exact ⟨rfl, rfl⟩
theorem sync_nil (no : Int) (w : World) : Calls Tryd.prog 59 #[.pointer none, .int .i64 no] w fun e w' => e = .returned (.int .i64 2) ∧ w = w' := by
  go_enter Tryd.func59, Tryd.ntmps59
  go_wp2_with (go_at_call 66; refine (may_nil _ _ _).mono ?_; rintro e w1 ⟨rfl, rfl⟩)
  go_ret
  exact ⟨rfl, rfl⟩
theorem trim_nil (no z : Int) (w : World) : Calls Tryd.prog 68 #[.pointer none, .int .i64 no, .int .i64 z] w fun e w' => e = .returned (.int .i64 2) ∧ w = w' := by
  go_enter Tryd.func68, Tryd.ntmps68
  go_wp2_with (go_at_call 66; refine (may_nil _ _ _).mono ?_; rintro e w1 ⟨rfl, rfl⟩)
  go_ret
  exact ⟨rfl, rfl⟩
theorem remove_nil (no : Int) (w : World) : Calls Tryd.prog 54 #[.pointer none, .int .i64 no] w fun e w' => e = .returned (.int .i64 2) ∧ w = w' := by
  go_enter Tryd.func54, Tryd.ntmps54
  go_wp2_with (go_at_call 66; refine (may_nil _ _ _).mono ?_; rintro e w1 ⟨rfl, rfl⟩)
  go_ret
  exact ⟨rfl, rfl⟩
theorem read_nil (no : Int) (w : World) : Calls Tryd.prog 63 #[.pointer none, .int .i64 no] w fun e w' => e = .returned (.tuple #[.string ⟨#[]⟩, .bool false]) ∧ w = w' := by
  go_enter Tryd.func63, Tryd.ntmps63
  go_wp2
  go_ret2
  exact ⟨rfl, rfl⟩
theorem list_nil (w : World) : Calls Tryd.prog 52 #[.pointer none] w fun e w' => e = .returned (.slice none 0 0) ∧ w = w' := by
  go_enter Tryd.func52, Tryd.ntmps52
  go_wp2
  go_ret
  exact ⟨rfl, rfl⟩
theorem fuse_nil (n : Int) (w : World) : Calls Tryd.prog 42 #[.pointer none, .int .i64 n] w fun e w' => e = .returned (.int .i64 2) ∧ w = w' := by
  go_enter Tryd.func42, Tryd.ntmps42
  go_wp2
  go_ret
  exact ⟨rfl, rfl⟩
theorem cut_nil (w : World) : Calls Tryd.prog 31 #[.pointer none] w fun e w' => e = .returned (.int .i64 2) ∧ w = w' := by
  go_enter Tryd.func31, Tryd.ntmps31
  go_wp2
  go_ret
  exact ⟨rfl, rfl⟩
theorem start_nil (v : Value) (w : World) : Calls Tryd.prog 44 #[.pointer none, v] w fun e w' => e = .returned (.int .i64 2) ∧ w = w' := by
  go_enter Tryd.func44, Tryd.ntmps44
  go_wp2
  go_ret
  exact ⟨rfl, rfl⟩
theorem on_nil (w : World) : Calls Tryd.prog 43 #[.pointer none] w fun e w' => e = .returned (.bool false) ∧ w = w' := by
  go_enter Tryd.func43, Tryd.ntmps43
  go_wp2
  go_ret
  exact ⟨rfl, rfl⟩
end Go.Proofs.YtdmjbdecemajpaaDoor.D
