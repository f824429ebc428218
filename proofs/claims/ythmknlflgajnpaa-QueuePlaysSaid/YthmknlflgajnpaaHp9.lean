/- The queue's Forget, Fails, Waiting, Now and Len. -/
import Derived.Test.YthmknlflgajnpaaHp8
namespace Go.Proofs.Ythmknlflgajnpaa
set_option linter.unusedVariables false
set_option linter.unusedSimpArgs false
open Go.RowKit
theorem now_any (B qb : Nat) (s : St) (d : QD) (w : World) (h : Inv B qb s d w) : Calls Try.prog 24 #[.pointer (some ⟨qb, 0, none⟩)] w fun e w' => e = .returned (.int .i64 s.now) ∧ w' = w := by
  have c2 := h.cell 2
  simp only [qcells, List.getElem?_toArray, List.getElem?_cons_succ, List.getElem?_cons_zero] at c2
  clear h
  go_enter Try.func24, Try.ntmps24
  go_wp2
  go_ret
  exact ⟨rfl, rfl⟩
theorem len_any (B qb : Nat) (s : St) (d : QD) (w : World) (h : Inv B qb s d w) : Calls Try.prog 18 #[.pointer (some ⟨qb, 0, none⟩)] w fun e w' => e = .returned (.int .i64 s.line.length) ∧ w' = w := by
  have c3 := h.cell 3
  simp only [qcells, List.getElem?_toArray, List.getElem?_cons_succ, List.getElem?_cons_zero] at c3
  obtain ⟨hh, ⟨hv, h0⟩ | ⟨g, cap, cur, hv, hr⟩⟩ := h.line
  · rw [hv] at c3
    have e0 : s.line.length = 0 := h0
    rw [e0]
    clear h hh hv h0
    go_enter Try.func18, Try.ntmps18
    go_wp2
    go_ret
    exact ⟨rfl, rfl⟩
  · rw [hv] at c3
    clear h hh hv hr
    go_enter Try.func18, Try.ntmps18
    go_wp2
    go_ret
    exact ⟨rfl, rfl⟩
theorem waiting_any (B qb : Nat) (s : St) (d : QD) (w : World) (h : Inv B qb s d w) : Calls Try.prog 17 #[.pointer (some ⟨qb, 0, none⟩)] w fun e w' => e = .returned (.int .i64 (s.mp 2).length) ∧ w' = w := by
  have c6 := h.cell 6
  simp only [qcells, List.getElem?_toArray, List.getElem?_cons_succ, List.getElem?_cons_zero] at c6
  have ln := M.len_run Try.underlying56 3 (h.maps 2)
  rw [mi_length] at ln
  clear h
  go_enter Try.func17, Try.ntmps17
  go_wp2
  go_ret
  exact ⟨rfl, rfl⟩
set_option maxRecDepth 100000 in
theorem fails_any (B qb : Nat) (s : St) (d : QD) (r : Ref) (w : World) (h : Inv B qb s d w) :
    Calls Try.prog 21 #[.pointer (some ⟨qb, 0, none⟩), rv r] w fun e w' => e = .returned (.int .i64 (num (s.mp 3) r)) ∧ Below w.heap.size w w' := by
  obtain ⟨k, nm⟩ := r
  have hbW : Below w.heap.size w (w.alloc (.cells #[.int .i64 k, .string nm] 30)) := (Below.refl _ _).alloc (Nat.le_refl _) _
  have hI := h.below hbW
  have c8 := hI.cell 8
  have lk := look (hI.maps 3) k nm
  have hlt := h.lt
  have Hb := Lib.hid hbW
  simp only [qcells, List.getElem?_toArray, List.getElem?_cons_succ, List.getElem?_cons_zero] at c8
  clear h hI hbW
  unfold rv
  go_enter Try.func21, Try.ntmps21
  go_wp2
  go_quiet (fail)
  go_wp2
  go_ret
  exact ⟨rfl, G.bdrewN Hb.out _⟩
def forgetS (s : St) (r : Ref) : St := { s with mp := fun j => if j = 3 then M.del (s.mp 3) r else s.mp j }
set_option maxRecDepth 100000 in
set_option maxHeartbeats 2000000 in
theorem forget_any (B qb : Nat) (s : St) (d : QD) (r : Ref) (w : World) (h : Inv B qb s d w) :
    Calls Try.prog 20 #[.pointer (some ⟨qb, 0, none⟩), rv r] w fun e w' => e = .returned (.tuple #[]) ∧ Step B qb d w (forgetS s r) w' := by
  obtain ⟨k, nm⟩ := r
  obtain ⟨W, hW⟩ : ∃ W, W = w.alloc (.cells #[.int .i64 k, .string nm] 30) := ⟨_, rfl⟩
  have hbW : Below w.heap.size w W := by rw [hW]; exact (Below.refl _ _).alloc (Nat.le_refl _) _
  have hI := h.below hbW
  have c8 := hI.cell 8
  have hqb : qb < w.heap.size := h.lt
  simp only [qcells, List.getElem?_toArray, List.getElem?_cons_succ, List.getElem?_cons_zero] at c8
  obtain ⟨o, ho1, ho2⟩ := mdel hI 0 3 k nm
  have hf2 : ∀ n, Fr (Foot qb d) w (M.upd (W.drewN n) (d.m 3) o) := fun n => (Fr.of_below hbW).trans (fr_upd W n (d.m 3) o (.inr (.inl ⟨3, rfl⟩))) (fun _ hj => .inl hj)
  rw [hW] at ho1 c8
  have Ho2 := Lib.hid ho2
  have Hf2 := Lib.hid hf2
  have HW := Lib.hid hW
  have M0 := Lib.hid (ho1 1)
  unfold rv
  clear hW hbW hI h ho2 hf2 ho1
  go_enter Try.func20, Try.ntmps20
  go_wp2
  go_region_law (refine step_delete_run rfl (.tmp 9) (.tmp 10) 56 30 rfl rfl rfl M0.out ?_)
  all_goals
    go_wp2
    refine bodyPost_end (results_none rfl _ _ _) rfl ⟨rfl, ?_⟩
    rw [← HW.out]
    exact Step.of (Ho2.out 1) (Hf2.out 1)
end Go.Proofs.Ythmknlflgajnpaa
