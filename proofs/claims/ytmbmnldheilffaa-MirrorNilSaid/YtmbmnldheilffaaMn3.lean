/- What is gone through (far). -/
import Derived.Test.YtmbmnldheilffaaMn2
namespace Go.Proofs.Ytmbmnldheilffaa
set_option linter.unusedVariables false
set_option linter.unusedSimpArgs false
open Go.RowKit
set_option maxRecDepth 100000 in
set_option maxHeartbeats 4000000 in
theorem far_any (x : AcE) (w : World) (h : AcOk w x) : Calls Try.prog 6 #[.agg (ac x)] w fun e w' => e = .returned (.bool (longA x)) ∧ Below w.heap.size w w' := by
  obtain ⟨w1, hw1, b1, p1⟩ := box_one w (ac x) 29
  obtain ⟨b, hb⟩ : ∃ b, b = w.heap.size := ⟨_, rfl⟩
  rw [← hb] at p1
  have P1 := Lib.hid (show AcIn w1 b x from p1)
  have H1 := Lib.hid (h.below b1)
  have B1 := Lib.hid b1
  have HW := Lib.hid hw1
  have c20 : w1.cell? ⟨b, 20, none⟩ = some (.slice x.A x.L.length x.c) := P1.out.cell 20
  have hl := h.len
  clear b1 p1 hw1 h
  go_enter Try.func6, Try.ntmps6
  go_upto_region 1 with (fail)
  rw [← HW.out, ← hb]
  clear hb
  have C1 := Lib.hid (long_any x.e.o x.e.f x.e.l x.e.c x.e.p x.e.i H1.out.sz w1 H1.out.rows)
  iterate 4 (first | go_values | go_skip | go_guarded | go_step)
  refine wpList_load_elem rfl (.tmp 4) rfl b 1 rfl x.e P1.out.range ?_
  go_wp2_with (fail)
  refine C1.out.mono ?_
  rintro y w2 ⟨rfl, hb2⟩
  have c20' : w2.cell? ⟨b, 20, none⟩ = some (.slice x.A x.L.length x.c) := (P1.out.below hb2).cell 20
  have P2 := Lib.hid (P1.out.below hb2)
  have H2 := Lib.hid (H1.out.below hb2)
  have B2 := Lib.hid (G.bthen B1.out hb2)
  clear c20 hb2
  cases hlo : longO x.e.o
  rotate_left
  · go_wp2
    go_ret
    exact ⟨by simp [longA, hlo], B2.out⟩
  by_cases h20 : (20 : Int) < x.L.length
  · have HN := Lib.hid (show longA x = true by unfold longA; rw [decide_eq_true (show 20 < x.L.length by omega)]; simp)
    have HLO := Lib.hid hlo
    clear hlo
    go_wp2
    go_ret
    exact ⟨by rw [HN.out]; rfl, B2.out⟩
  have HLO := Lib.hid hlo
  have hle : (x.L.length : Int) ≤ 20 := by omega
  clear hlo h20
  go_wp2
  go_loopw [3] (fun j wr => ∃ k : Nat, k ≤ x.L.length ∧ j = .int .i64 k ∧ Hid (Below w2.heap.size w2 wr ∧ ∀ e ∈ x.L.take k, longO e.o = false)) (fun j _ => x.L.length - (intOf j).toNat)
  case atStart => exact ⟨0, Nat.zero_le _, rfl, Lib.hid ⟨Below.refl _ _, by simp⟩⟩
  case round =>
    obtain ⟨k, hk, rfl, H⟩ := hrel
    have cr : wr.cell? ⟨b, 20, none⟩ = some (.slice x.A x.L.length x.c) := (P2.out.below H.out.1).cell 20
    by_cases hkn : k < x.L.length
    · obtain ⟨e, he⟩ : ∃ e, x.L[k]? = some e := ⟨_, List.getElem?_eq_getElem hkn⟩
      obtain ⟨g, p, hA, hrg, hrows⟩ := (H2.out.below H.out.1).obs.at he
      rw [hA] at cr c20'
      have HE := Lib.hid he
      have HRG := Lib.hid hrg
      have C3 := Lib.hid (long_any e.o e.f e.l e.c e.p e.i (H2.out.szs e (List.mem_of_getElem? he)) wr hrows)
      clear he hrg hrows hA
      go_upto_region 6 with (fail)
      iterate 13 (first | go_values | go_skip | go_guarded | go_step)
      refine wpList_load_elem rfl (.tmp 23) rfl g (p + k * 19) rfl e HRG.out ?_
      go_wp2_with (fail)
      refine C3.out.mono ?_
      rintro y w3 ⟨rfl, hb3⟩
      cases hlo : longO e.o
      rotate_left
      · have HN := Lib.hid (show longA x = true by
          unfold longA
          rw [List.any_eq_true.2 ⟨e, List.mem_of_getElem? HE.out, hlo⟩]; simp)
        clear hlo
        go_wp2
        go_ret
        exact ⟨by rw [HN.out]; rfl, B2.out.trans (belowLe B2.out.size (G.bthen H.out.1 hb3))⟩
      · have HLE := Lib.hid hlo
        have HB3 := Lib.hid (G.bthen H.out.1 hb3)
        clear hlo hb3
        go_wp2
        go_roundw
        case rel => exact ⟨k + 1, by omega, by go_num, Lib.hid ⟨HB3.out, fun e' he' => by
          rw [List.take_add_one, HE.out] at he'
          rcases List.mem_append.1 he' with h1 | h1
          · exact H.out.2 e' h1
          · simp at h1; rw [h1]; exact HLE.out⟩⟩
        case measure => simp [intOf]; omega
    · obtain rfl : k = x.L.length := by omega
      have HN := Lib.hid (show longA x = false by
        have hall := H.out.2
        rw [List.take_length] at hall
        unfold longA
        rw [HLO.out, decide_eq_false (show ¬ 20 < x.L.length by omega), Bool.false_or, Bool.false_or, List.any_eq_false]
        intro e he
        rw [hall e he]; simp)
      go_wp2
      go_ret
      exact ⟨by rw [HN.out]; rfl, B2.out.trans (belowLe B2.out.size H.out.1)⟩
end Go.Proofs.Ytmbmnldheilffaa
