/- The walk of the frame laws' example. -/
import Derived.Test.YtdmjbdecemajpaaDoorFrm5
namespace Go.Proofs.YtdmjbdecemajpaaDoor
open Go.RowKit SumP
theorem scan_one : scan (frm ⟨#[]⟩ ++ ⟨#[120]⟩) = ([⟨#[]⟩], 8) := by
  have h := scan_packs [⟨#[]⟩] (by intro b hb; simp at hb; subst hb; decide) ⟨#[120]⟩ (by unfold fOk; simp [ByteArray.size])
  simp only [packs] at h
  rw [append_empty] at h
  rw [h, frm_size]
  rfl
theorem frm_empty4 : (frm ⟨#[]⟩).extract 0 4 = ⟨#[0, 0, 0, 0]⟩ := by
  have h := frm_ex0 ⟨#[]⟩ ⟨#[]⟩
  rw [append_empty] at h
  rw [h]
  decide
set_option maxRecDepth 100000 in
set_option maxHeartbeats 400000 in
theorem awake10 (w : World) (hT : Hid (TabOf w)) : Calls Tryd.prog 19 #[] w fun e w' => e = .returned (.bool true) ∧ Below w.heap.size w w' := by
  have c1 := fun W hT => fOf_any ⟨#[]⟩ (by decide) W hT
  have h8 : (frm ⟨#[]⟩).size = 8 := by rw [frm_size]; rfl
  have c2 := fun W hT => scan_any (frm ⟨#[]⟩ ++ ⟨#[120]⟩) (by rw [ByteArray.size_append, h8]; decide) W hT
  rw [scan_one] at c2
  have h4 := frm_empty4
  obtain ⟨t, ht⟩ : ∃ t, t = frm ⟨#[]⟩ := ⟨_, rfl⟩
  rw [← ht] at c1 c2 h8 h4
  have C1 := Lib.hid c1
  have C2 := Lib.hid c2
  clear c1 c2 ht
  go_enter Tryd.func19, Tryd.ntmps19
  go_wp2_with (first
    | (go_at_call 20; refine Calls.mono (C1.out _ hT) ?_; rintro e w1 ⟨rfl, hb1⟩; have hT1 : Hid (TabOf w1) := Lib.hid (TabOf.below hT.out hb1))
    | (go_at_call 24; refine Calls.mono (C2.out _ hT1) ?_; rintro e w2 ⟨v, rfl, hv, hb2⟩; obtain ⟨_, A, ca, rfl, _, _, _⟩ := hv))
  go_ret
  exact ⟨rfl, G.bthen hb1 hb2⟩
end Go.Proofs.YtdmjbdecemajpaaDoor
