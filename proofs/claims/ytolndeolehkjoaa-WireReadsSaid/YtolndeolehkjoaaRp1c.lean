/- The reference's Pack. -/
import Derived.Test.YtolndeolehkjoaaSh6c
import Derived.Test.YtolndeolehkjoaaRb3c
namespace Go.Proofs.Ytolndeolehkjoaa
set_option linter.unusedVariables false
set_option linter.unusedSimpArgs false
open Go.RowKit CodP
set_option maxRecDepth 100000 in
set_option maxHeartbeats 4000000 in
theorem rpack_any (o : Ob) (f l c p i : Sl) (hs : o.fins.length ≤ 1000000 ∧ o.labels.length ≤ 1000000 ∧ o.cidrs.length ≤ 1000000 ∧ o.fams.length ≤ 1000000 ∧ o.ips.length ≤ 1000000) (w : World) (hr : RowsR w o f l c p i) :
    Calls Try.prog 19 #[.agg (oc o f l c p i)] w fun e w' => e = .returned (.tuple #[.string (packS o).1, .int .i64 (packS o).2]) ∧ Below w.heap.size w w' := by
  obtain ⟨w1, hw1, b1, p1⟩ := box_one w (oc o f l c p i) 32
  obtain ⟨x, hx⟩ : ∃ x, x = w.heap.size := ⟨_, rfl⟩
  rw [← hx] at p1
  have R1 := Lib.hid (hr.below b1)
  have P1 := Lib.hid p1
  have HW := Lib.hid hw1
  have B1 := Lib.hid b1
  have C1 := Lib.hid (rshape_any o f l c p i hs w1 (hr.below b1))
  cases hsh : CodP.shape o
  · have hp : packS o = (⟨#[]⟩, 13) := by unfold packS; rw [hsh]; rfl
    rw [hsh] at C1
    have HP := Lib.hid hp
    clear b1 p1 hw1 hr hs hsh hp
    go_enter Try.func19, Try.ntmps19
    go_upto_region 1 with (fail)
    rw [← HW.out, ← hx]
    clear hx
    go_wp2_with (first
      | (refine wpList_load_row rfl 32 (.tmp 1) rfl x rfl 32 _ (0, 0) _ P1.out Try.underlying32 rfl size32 ?_)
      | (go_at_call 47; refine C1.out.mono ?_; rintro e w2 ⟨rfl, hb2⟩))
    go_ret2
    exact ⟨by rw [HP.out]; rfl, B1.out.trans (belowLe B1.out.size hb2)⟩
  · have hp : packS o = (bytesS o, 0) := by unfold packS; rw [hsh]; rfl
    have HFT := Lib.hid (fits_of o hsh)
    rw [hsh] at C1
    have HP := Lib.hid hp
    clear b1 p1 hw1 hr hs hsh hp
    go_enter Try.func19, Try.ntmps19
    go_upto_region 1 with (fail)
    rw [← HW.out, ← hx]
    clear hx
    go_upto_region 3 with (first
      | (refine wpList_load_row rfl 32 (.tmp 1) rfl x rfl 32 _ (0, 0) _ P1.out Try.underlying32 rfl size32 ?_)
      | (go_at_call 47; refine C1.out.mono ?_; rintro e w2 ⟨rfl, hb2⟩))
    have P2 := Lib.hid ((hb2.block x (Array.getElem?_eq_some_iff.1 P1.out).1).trans P1.out)
    have B2 := Lib.hid (B1.out.trans (belowLe B1.out.size hb2))
    have C2 := Lib.hid (rbytes_any o f l c p i HFT.out w2 (R1.out.below hb2))
    clear hb2
    go_wp2_with (first
      | (refine wpList_load_row rfl 32 (.tmp 1) rfl x rfl 32 _ (0, 0) _ P2.out Try.underlying32 rfl size32 ?_)
      | (go_at_call 48; refine C2.out.mono ?_; rintro e w3 ⟨rfl, hb3⟩))
    go_ret2
    exact ⟨by rw [HP.out]; rfl, B2.out.trans (belowLe B2.out.size hb3)⟩
end Go.Proofs.Ytolndeolehkjoaa
