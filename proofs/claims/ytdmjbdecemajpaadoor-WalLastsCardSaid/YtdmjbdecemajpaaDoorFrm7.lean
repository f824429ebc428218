/- The walks of the laws FrameIs and FrameScans. -/
import Derived.Test.YtdmjbdecemajpaaDoorFrm6
namespace Go.Proofs.YtdmjbdecemajpaaDoor
open Go.RowKit SumP
theorem whole_frm (s : ByteArray) (hs : s.size ≤ 65536) : whole (frm s) = true ∧ fBody (frm s) = s := by
  have h1 := fOk_frm s ⟨#[]⟩ hs
  have h2 := fN_frm s ⟨#[]⟩ hs
  have h3 := fBody_frm s ⟨#[]⟩ hs
  rw [append_empty] at h1 h2 h3
  refine ⟨?_, h3⟩
  unfold whole
  rw [h1, h2, frm_size]; simp
set_option maxRecDepth 100000 in
set_option maxHeartbeats 1000000 in
theorem frameIs_walk (s : ByteArray) (hs : s.size ≤ 140737488351232) (w : World) (hT : Hid (TabOf w)) :
    Calls Tryd.prog 7 #[.string s] w fun e w' => e = .returned (.bool true) ∧ Below w.heap.size w w' := by
  by_cases h7 : 70000 < s.size
  · go_enter Tryd.func7, Tryd.ntmps7
    go_wp2_with (go_at_call 19; refine (awake10 _ hT).mono ?_; rintro e w1 ⟨rfl, hb1⟩)
    go_ret
    exact ⟨rfl, hb1⟩
  have hw : IntKind.i64.wrap (8 + (s.size : Int)) = (s.size : Int) + 8 := by rw [IntKind.wrap_i64]; omega
  by_cases h6 : 65536 < s.size
  · go_enter Tryd.func7, Tryd.ntmps7
    go_wp2_with (first
      | (go_at_call 19; refine (awake10 _ hT).mono ?_; rintro e w1 ⟨rfl, hb1⟩)
      | (go_at_call 20; refine (fOf_long s h6 hs _).mono ?_; rintro e w2 ⟨rfl, rfl⟩)
      | (go_at_call 21; refine (size_any s hs _).mono ?_; rintro e w3 ⟨rfl, rfl⟩))
    go_ret
    exact ⟨rfl, hb1⟩
  · obtain ⟨hy, hbd⟩ := whole_frm s (by omega)
    have c1 := fun W hT => fOf_any s (by omega) W hT
    have c2 := fun W hT => whole_yes (frm s) (by rw [frm_size]; omega) W hT hy
    have c3 := fun W => refOf_any s (by omega) W
    rw [hbd] at c2
    obtain ⟨t, ht⟩ : ∃ t, t = frm s := ⟨_, rfl⟩
    rw [← ht] at c1 c2 c3
    have C1 := Lib.hid c1
    have C2 := Lib.hid c2
    have C3 := Lib.hid c3
    clear c1 c2 c3 ht hy hbd
    go_enter Tryd.func7, Tryd.ntmps7
    go_wp2_with (first
      | (go_at_call 19; refine (awake10 _ hT).mono ?_; rintro e w1 ⟨rfl, hb1⟩; have hT1 : Hid (TabOf w1) := Lib.hid (TabOf.below hT.out hb1))
      | (go_at_call 20; refine Calls.mono (C1.out _ hT1) ?_; rintro e w2 ⟨rfl, hb2⟩; have hT2 : Hid (TabOf w2) := Lib.hid (TabOf.below hT1.out hb2))
      | (go_at_call 21; refine (size_any s hs _).mono ?_; rintro e w3 ⟨rfl, rfl⟩)
      | (go_at_call 22; refine Calls.mono (C2.out _ hT2) ?_; rintro e w3 ⟨rfl, hb3⟩)
      | (go_at_call 23; refine Calls.mono (C3.out _) ?_; rintro e w4 ⟨rfl, hb4⟩))
    go_ret
    exact ⟨rfl, G.bthen hb1 (G.bthen hb2 (G.bthen hb3 hb4))⟩
end Go.Proofs.YtdmjbdecemajpaaDoor
