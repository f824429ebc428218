/- The law MirrorNil. -/
import Derived.Test.YtmbmnldheilffaaMn3
import Derived.Test.YtmbmnldheilffaaMn1
namespace Go.Proofs.Ytmbmnldheilffaa
set_option linter.unusedVariables false
set_option linter.unusedSimpArgs false
open Go.RowKit
/-- what stands while a mirror that is not there is asked -/
structure NS (w : World) (x : AcE) (b r : Nat) (W : World) : Prop where
  act : AcIn W b x
  ref : W.heap[r]? = some (.cells #[.int .i64 x.e.o.kind, .string x.e.o.name] 34 (0, 0))
  bel : Below w.heap.size w W
theorem NS.below {w : World} {x : AcE} {b r : Nat} {W W1 : World} (h : NS w x b r W) (hb : Below W.heap.size W W1) : NS w x b r W1 :=
  ⟨h.act.below hb, (hb.block _ (Array.getElem?_eq_some_iff.1 h.ref).1).trans h.ref, G.bthen h.bel hb⟩
theorem NS.c0 {w : World} {x : AcE} {b r : Nat} {W : World} (h : NS w x b r W) : W.cell? ⟨b, 0, none⟩ = some (.int .i64 x.k) := h.act.cell 0
theorem NS.c20 {w : World} {x : AcE} {b r : Nat} {W : World} (h : NS w x b r W) : W.cell? ⟨b, 20, none⟩ = some (.slice x.A x.L.length x.c) := h.act.cell 20
theorem NS.r0 {w : World} {x : AcE} {b r : Nat} {W : World} (h : NS w x b r W) : W.cell? ⟨r, 0, none⟩ = some (.int .i64 x.e.o.kind) := by simp [World.cell?, h.ref]
theorem NS.r1 {w : World} {x : AcE} {b r : Nat} {W : World} (h : NS w x b r W) : W.cell? ⟨r, 1, none⟩ = some (.string x.e.o.name) := by simp [World.cell?, h.ref]
set_option maxRecDepth 100000 in
set_option maxHeartbeats 8000000 in
theorem nil_law (x : AcE) (w : World) (h : AcOk w x) : Calls Try.prog 3 #[.agg (ac x)] w fun e w' => e = .returned (.bool true) ∧ Below w.heap.size w w' := by
  obtain ⟨w1, hw1, b1, p1⟩ := box_one w (ac x) 29
  obtain ⟨b, hb⟩ : ∃ b, b = w.heap.size := ⟨_, rfl⟩
  rw [← hb] at p1
  have P1 := Lib.hid (show AcIn w1 b x from p1)
  have H1 := Lib.hid (h.below b1)
  have B1 := Lib.hid b1
  have HW := Lib.hid hw1
  clear b1 p1 hw1 h
  go_enter Try.func3, Try.ntmps3
  go_upto_region 1 with (fail)
  rw [← HW.out, ← hb]
  clear hb
  go_upto_region 3 with (go_at_call 5; refine (awake_any _).mono ?_; rintro e w2 ⟨rfl, hb⟩)
  have P2 := Lib.hid (P1.out.below hb)
  have H2 := Lib.hid (H1.out.below hb)
  have B2 := Lib.hid (G.bthen B1.out hb)
  have f2 := far_any x w2 H2.out
  have P2r : Hid (w2.heap[b]? = some (.cells (ac x) 29 (0, 0))) := P2
  clear hb
  cases hlo : longA x
  rotate_left
  · rw [hlo] at f2
    have F2 := Lib.hid f2
    clear f2 hlo
    go_wp2_with (first | (refine wpList_load_row rfl 29 (.tmp 1) rfl b rfl 29 _ (0, 0) _ P2r.out Try.underlying29 rfl sizeA ?_) | (go_at_call 6; refine F2.out.mono ?_; rintro e w3 ⟨rfl, hb3⟩))
    go_ret
    exact ⟨rfl, G.bthen B2.out hb3⟩
  rw [hlo] at f2
  have F2 := Lib.hid f2
  clear f2 hlo
  go_upto_region 6 with (first | (refine wpList_load_row rfl 29 (.tmp 1) rfl b rfl 29 _ (0, 0) _ P2r.out Try.underlying29 rfl sizeA ?_) | (go_at_call 6; refine F2.out.mono ?_; rintro e w3 ⟨rfl, hb3⟩))
  have P3 := Lib.hid (P2.out.below hb3)
  have B3 := Lib.hid (G.bthen B2.out hb3)
  have k1 : w3.cell? ⟨b, 1, none⟩ = some (.int .i64 x.e.o.kind) := P3.out.cell 1
  have k2 : w3.cell? ⟨b, 2, none⟩ = some (.string x.e.o.name) := P3.out.cell 2
  clear hb3
  go_upto_region 7 with (fail)
  obtain ⟨r, hr⟩ : ∃ r, r = w3.heap.size := ⟨_, rfl⟩
  obtain ⟨w4, hw4⟩ : ∃ w4, w4 = w3.alloc (.cells #[.int .i64 x.e.o.kind, .string x.e.o.name] 34) := ⟨_, rfl⟩
  have hb4 : Below w3.heap.size w3 w4 := by rw [hw4]; exact bel_alloc _ _
  have N4 := Lib.hid (show NS w x b r w4 from ⟨P3.out.below hb4, by rw [hw4, hr]; exact G.heap_new _ _, G.bthen B3.out hb4⟩)
  have H4 := Lib.hid (H2.out)
  rw [← hw4, ← hr]
  have r0 := N4.out.r0
  have r1 := N4.out.r1
  clear hb4 hw4 hr k1 k2
  go_upto_region 8 with (first | (refine wpList_store_row rfl 26 (.tmp 5) (.tmp 22) rfl _ zob rfl rfl 26 _ (G.heap_new _ _) size32 rfl zob_one ?_) | (go_at_call 7; refine (get_nil ⟨x.e.o.kind, x.e.o.name⟩ w4).mono ?_; rintro e w5 ⟨rfl, hb5⟩))
  have b6 := bel_allocRow w5 #[.int .i64 0, .string ⟨#[]⟩, .int .i64 0, .int .i64 0, .bool false, .slice none 0 0, .slice none 0 0, .slice none 0 0, .string ⟨#[]⟩, .int .i64 0, .int .i64 0, .slice none 0 0, .slice none 0 0, .string ⟨#[]⟩, .string ⟨#[]⟩, .int .i64 0, .string ⟨#[]⟩, .string ⟨#[]⟩, .string ⟨#[]⟩] zob 26
  obtain ⟨w6, hw6⟩ : ∃ z, z = (w5.alloc (.cells #[.int .i64 0, .string ⟨#[]⟩, .int .i64 0, .int .i64 0, .bool false, .slice none 0 0, .slice none 0 0, .slice none 0 0, .string ⟨#[]⟩, .int .i64 0, .int .i64 0, .slice none 0 0, .slice none 0 0, .string ⟨#[]⟩, .string ⟨#[]⟩, .int .i64 0, .string ⟨#[]⟩, .string ⟨#[]⟩, .string ⟨#[]⟩] 26)).setRow w5.heap.size zob := ⟨_, rfl⟩
  rw [← hw6] at b6 ⊢
  have N6 := Lib.hid ((N4.out.below hb5).below b6)
  clear hb5 b6 hw6 r0 r1
  go_wp2_with (first | (refine wpList_load_elem rfl (.tmp 25) rfl b 1 rfl x.e N6.out.act.range ?_) | (go_at_call 8; refine (put_nil _ ⟨_, _, _, _, _, _, rfl⟩ w6).mono ?_; rintro e w7 ⟨rfl, hb7⟩; have N7 := Lib.hid (N6.out.below hb7); clear hb7; have r0 := N7.out.r0; have r1 := N7.out.r1) | (go_at_call 9; refine (drop_nil ⟨x.e.o.kind, x.e.o.name⟩ w7).mono ?_; rintro e w8 ⟨rfl, hb8⟩; have N8 := Lib.hid (N7.out.below hb8); clear hb8 r0 r1; have k0 := N8.out.c0) | (go_at_call 10; refine (list_nil x.k w8).mono ?_; rintro e w9 ⟨rfl, hb9⟩; have N9 := Lib.hid (N8.out.below hb9); clear hb9 k0; have k0 := N9.out.c0) | (go_at_call 11; refine (all_nil w9).mono ?_; rintro e v9 ⟨rfl, rfl⟩) | (go_at_call 12; refine (len_nil _).mono ?_; rintro e u9 ⟨rfl, rfl⟩) | (go_at_call 13; refine (holders_nil x.k _ _).mono ?_; rintro e w10 ⟨rfl, hb10⟩; have N10 := Lib.hid (N9.out.below hb10); clear hb10 k0; have k20 := N10.out.c20) | (go_at_call 14; refine (set_nil x.A x.L.length x.c w10).mono ?_; rintro e w11 ⟨rfl, hb11⟩; have N11 := Lib.hid (N10.out.below hb11); clear hb11))
  go_ret
  exact ⟨rfl, N11.out.bel⟩
end Go.Proofs.Ytmbmnldheilffaa
