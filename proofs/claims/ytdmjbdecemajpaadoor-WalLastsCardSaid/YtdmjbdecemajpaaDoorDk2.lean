/- The walks of the disk: may and step. -/
import Derived.Test.YtdmjbdecemajpaaDoorDk1
namespace Go.Proofs.YtdmjbdecemajpaaDoor.D
set_option linter.unusedVariables false
set_option linter.unusedSimpArgs false
open Go.RowKit
/-- where the file's entry of the map is known -/
structure Fnd (s : DS) (no : Int) (f : Fl) (b : Bool) : Prop where
  f : (M.get s.files no).getD fl0 = f
  b : (M.get s.files no).isSome = b
theorem may_off {s : DS} (h : s.off = true) (no : Int) (t : Bool) : mayE s no t = 6 := by unfold mayE; rw [h]; rfl
theorem may_arg {s : DS} (h : s.off = false) {no : Int} (hn : no < 1 ∨ 1000000 < no) (t : Bool) : mayE s no t = 1 := by unfold mayE; rw [h, if_neg Bool.false_ne_true, if_pos hn]
theorem may_none {s : DS} (h : s.off = false) {no : Int} (hn : ¬ (no < 1 ∨ 1000000 < no)) (hb : (M.get s.files no).isSome = false) : mayE s no true = 7 := by unfold mayE; rw [h, if_neg Bool.false_ne_true, if_neg hn, if_pos ⟨rfl, hb⟩]
theorem may_ok {s : DS} (h : s.off = false) {no : Int} (hn : ¬ (no < 1 ∨ 1000000 < no)) {t : Bool} (hb : t = true → (M.get s.files no).isSome = true) : mayE s no t = 0 := by
  unfold mayE
  rw [h, if_neg Bool.false_ne_true, if_neg hn, if_neg (fun hh => by have := hb hh.1; rw [this] at hh; cases hh.2)]
set_option maxRecDepth 100000 in
set_option maxHeartbeats 2000000 in
theorem may_any (B db m : Nat) (s : DS) (no : Int) (t : Bool) (w : World) (h : DInv B db m s w) :
    Calls Tryd.prog 66 #[.pointer (some ⟨db, 0, none⟩), .int .i64 no, .bool t] w fun e w' => e = .returned (.int .i64 (mayE s no t)) ∧ Below w.heap.size w w' := by
  have c1 := h.c1
  have hlt := h.lt
  cases ho : s.off
  · rw [ho] at c1
    by_cases hn : no < 1 ∨ 1000000 < no
    · have Ha := Lib.hid (may_arg ho hn t)
      clear h ho
      by_cases h1 : no < 1
      · have d1 : decide (no < 1) = true := decide_eq_true h1
        clear hn h1
        go_enter Tryd.func66, Tryd.ntmps66
        go_wp2
        go_ret
        exact ⟨by rw [Ha.out]; rfl, Below.refl _ _⟩
      · have d1 : decide (no < 1) = false := decide_eq_false h1
        have d2 : decide (1000000 < no) = true := decide_eq_true (by omega)
        clear hn h1
        go_enter Tryd.func66, Tryd.ntmps66
        go_wp2
        go_ret
        exact ⟨by rw [Ha.out]; rfl, Below.refl _ _⟩
    · have d1 : decide (no < 1) = false := decide_eq_false (by omega)
      have d2 : decide (1000000 < no) = false := decide_eq_false (by omega)
      obtain ⟨f, hf⟩ : ∃ f, (M.get s.files no).getD fl0 = f := ⟨_, rfl⟩
      obtain ⟨b, hb⟩ : ∃ b, (M.get s.files no).isSome = b := ⟨_, rfl⟩
      have lk := lookT h.map no hf hb 0
      have c0 := h.c0
      rw [show w.drewN 0 = w from rfl] at lk
      cases t
      · have Ha := Lib.hid (may_ok ho hn (t := false) (fun hh => by cases hh))
        clear h ho hn hf hb
        go_enter Tryd.func66, Tryd.ntmps66
        go_wp2
        go_ret
        exact ⟨by rw [Ha.out]; rfl, bel_allocT _ _⟩
      · cases b
        · have Ha := Lib.hid (may_none ho hn hb)
          clear h ho hn hf hb
          go_enter Tryd.func66, Tryd.ntmps66
          go_wp2
          go_ret
          exact ⟨by rw [Ha.out]; rfl, bel_allocT _ _⟩
        · have Ha := Lib.hid (may_ok ho hn (t := true) (fun _ => hb))
          clear h ho hn hf hb
          go_enter Tryd.func66, Tryd.ntmps66
          go_wp2
          go_ret
          exact ⟨by rw [Ha.out]; rfl, bel_allocT _ _⟩
  · rw [ho] at c1
    have Ha := Lib.hid (may_off ho no t)
    clear h ho
    go_enter Tryd.func66, Tryd.ntmps66
    go_wp2
    go_ret
    exact ⟨by rw [Ha.out]; rfl, Below.refl _ _⟩
theorem may_nil (no : Int) (t : Bool) (w : World) :
    Calls Tryd.prog 66 #[.pointer none, .int .i64 no, .bool t] w fun e w' => e = .returned (.int .i64 2) ∧ w = w' := by
  go_enter Tryd.func66, Tryd.ntmps66
  go_wp2
  go_ret
  exact ⟨rfl, rfl⟩
theorem DInv.set {B db m : Nat} {s s' : DS} {w : World} (h : DInv B db m s w) (i : Nat) (v : Value) (hc : (dcells s m).setIfInBounds i v = dcells s' m) (hf : s'.files = s.files) : DInv B db m s' (w.setCell ⟨db, i, none⟩ v) := by
  refine ⟨?_, h.hB, h.hm, ?_⟩
  · rw [heap_setCell_same _ _ _ _ _ _ h.cells, hc]
  · rw [hf]; exact h.map.of_block (Below.heap_setCell _ _ _ _ (Ne.symm h.apart))
set_option maxRecDepth 100000 in
set_option maxHeartbeats 2000000 in
theorem step_any (B db m : Nat) (s : DS) (w : World) (h : DInv B db m s w) (hs : 0 ≤ s.steps ∧ s.steps ≤ 1000000000) (hf : 0 ≤ s.fuse ∧ s.fuse ≤ 9223372036854775807) :
    Calls Tryd.prog 67 #[.pointer (some ⟨db, 0, none⟩)] w fun e w' => e = .returned (.int .i64 (stepE s)) ∧ DStep B db m w (stepS s) w' := by
  have hlt := h.lt
  have c1 := h.c1
  have c2 := h.c2
  have c3 := h.c3
  have f1 := h.free 1
  have f2 := h.free 2
  have f3 := h.free 3
  have hw : IntKind.i64.wrap (s.steps + 1) = s.steps + 1 := by rw [IntKind.wrap_i64]; omega
  have i1 := h.set (s' := { s with steps := s.steps + 1 }) 3 (.int .i64 (s.steps + 1)) (by simp [dcells]) rfl
  have r1 := fr_set (F := Foot db m) w db 3 (.int .i64 (s.steps + 1)) (.inl rfl)
  by_cases h1 : s.fuse = 1
  · have i2 := i1.set (s' := { s with steps := s.steps + 1, off := true }) 1 (.bool true) (by simp [dcells]) rfl
    have i3 := i2.set (s' := { s with steps := s.steps + 1, off := true, fuse := 0 }) 2 (.int .i64 0) (by simp [dcells]) rfl
    have Hi := Lib.hid i3
    have Hr := Lib.hid ((r1.trans (fr_set (F := Foot db m) _ db 1 (.bool true) (.inl rfl)) (fun _ hj => .inl hj)).trans (fr_set (F := Foot db m) _ db 2 (.int .i64 0) (.inl rfl)) (fun _ hj => .inl hj))
    have Ha := Lib.hid (show stepE s = 6 from if_pos h1)
    have Hb := Lib.hid (show stepS s = { s with steps := s.steps + 1, off := true, fuse := 0 } from if_pos h1)
    have d1 : (s.fuse == 1) = true := by simpa using h1
    clear h i1 r1 i2 i3 h1 hf hs
    go_enter Tryd.func67, Tryd.ntmps67
    go_wp2
    go_ret
    rw [Hb.out]
    exact ⟨by rw [Ha.out]; rfl, Hi.out, Hr.out⟩
  · have h01 : s.fuse = 0 ∨ 1 < s.fuse := by omega
    have Ha := Lib.hid (show stepE s = 0 from if_neg h1)
    have d1 : (s.fuse == 1) = false := by simpa using h1
    have hwf : IntKind.i64.wrap (s.fuse - 1) = s.fuse - 1 := by rw [IntKind.wrap_i64]; omega
    have key : ∀ M, max (0 : Int) (s.fuse - 1) = M → Hid (DInv B db m { s with steps := s.steps + 1, fuse := M } ((w.setCell ⟨db, 3, none⟩ (.int .i64 (s.steps + 1))).setCell ⟨db, 2, none⟩ (.int .i64 M))) ∧
        Hid (Fr (Foot db m) w ((w.setCell ⟨db, 3, none⟩ (.int .i64 (s.steps + 1))).setCell ⟨db, 2, none⟩ (.int .i64 M))) ∧ Hid (stepS s = { s with steps := s.steps + 1, fuse := M }) := fun M hM =>
      ⟨Lib.hid (i1.set (s' := { s with steps := s.steps + 1, fuse := M }) 2 (.int .i64 M) (by simp [dcells]) rfl), Lib.hid (r1.trans (fr_set (F := Foot db m) _ db 2 (.int .i64 M) (.inl rfl)) (fun _ hj => .inl hj)), Lib.hid (by rw [← hM]; exact if_neg h1)⟩
    rcases h01 with h0 | h0
    · obtain ⟨Hi, Hr, Hb⟩ := key 0 (by omega)
      have c2' := c2
      rw [h0] at c2' d1
      clear key h i1 r1 h1 hf hs h0 c2 hwf
      go_enter Tryd.func67, Tryd.ntmps67
      go_wp2
      go_ret
      rw [Hb.out]
      exact ⟨by rw [Ha.out]; rfl, Hi.out, Hr.out⟩
    · obtain ⟨Hi, Hr, Hb⟩ := key (s.fuse - 1) (by omega)
      clear key h i1 r1 h1 hf hs
      go_enter Tryd.func67, Tryd.ntmps67
      go_wp2
      go_ret
      rw [Hb.out]
      exact ⟨by rw [Ha.out]; rfl, Hi.out, Hr.out⟩
end Go.Proofs.YtdmjbdecemajpaaDoor.D
