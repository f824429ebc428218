/- The walk of the law FrameScans. -/
import Derived.Test.YtdmjbdecemajpaaDoorFrm7
namespace Go.Proofs.YtdmjbdecemajpaaDoor
open Go.RowKit SumP
theorem fromAt_zero (s : ByteArray) : fromAt s 0 = s := by unfold fromAt; exact ex_all s
theorem fromAt_end (s : ByteArray) : fOk (fromAt s s.size) = false := by
  cases h : fOk (fromAt s s.size) with
  | false => rfl
  | true => have hf := fOk_fits h; rw [fromAt_size s _ (Nat.le_refl _)] at hf; omega
theorem scan_whole {s : ByteArray} (h : whole s = true) : scan s = ([fBody s], s.size) := by
  unfold whole at h
  simp only [Bool.and_eq_true, decide_eq_true_eq] at h
  have h1 := (Scanned.start s).next (by rw [fromAt_zero]; exact h.1)
  rw [fromAt_zero, Nat.zero_add, List.nil_append, h.2] at h1
  exact h1.stop (fromAt_end s)
theorem whole_scan {s : ByteArray} (h1 : (scan s).1.length = 1) (h2 : (scan s).2 = s.size) : whole s = true := by
  cases ho : fOk s with
  | false =>
    have := (Scanned.start s).stop (by rw [fromAt_zero]; exact ho)
    rw [this] at h1; simp at h1
  | true =>
    have h3 := (Scanned.start s).next (by rw [fromAt_zero]; exact ho)
    rw [fromAt_zero, Nat.zero_add, List.nil_append] at h3
    unfold whole
    rw [ho]
    cases hn : fOk (fromAt s (8 + fN s)) with
    | false =>
      rw [h3.stop hn] at h2
      simpa using h2
    | true =>
      have h4 := (h3.next hn).2.2
      rw [h4] at h1
      simp at h1
set_option maxRecDepth 100000 in
set_option maxHeartbeats 4000000 in
theorem frameScans_walk (s : ByteArray) (hs : s.size ≤ 140737488351232) (w : World) (hT : Hid (TabOf w)) :
    Calls Tryd.prog 8 #[.string s] w fun e w' => e = .returned (.bool true) ∧ Below w.heap.size w w' := by
  by_cases h7 : 4000 < s.size
  · go_enter Tryd.func8, Tryd.ntmps8
    go_wp2_with (go_at_call 19; refine (awake10 _ hT).mono ?_; rintro e w1 ⟨rfl, hb1⟩)
    go_ret
    exact ⟨rfl, hb1⟩
  have c1 := fun W hT => scan_any s (by omega) W hT
  have c2 := fun W => refScan_any s (by omega) W
  have c3 := fun W hT h => unpack_yes s (by omega) W hT h
  have c4 := fun W hT h => unpack_no s (by omega) W hT h
  have c5 := fun W hT h => whole_yes s hs W hT h
  have c6 := fun W hT h => whole_no s hs W hT h
  have d1 := fun h => scan_whole (s := s) h
  have d2 := fun h h' => whole_scan (s := s) h h'
  obtain ⟨l, hl⟩ : ∃ l, l = (scan s).1 := ⟨_, rfl⟩
  obtain ⟨m, hm⟩ : ∃ m, m = (scan s).2 := ⟨_, rfl⟩
  have d3 : scan s = (l, m) := by rw [hl, hm]
  rw [← hm] at c1 c2 c3 c4 d2
  rw [← hl] at c1 c2 c3 d2
  rw [d3] at d1
  cases hy : whole s with
  | true =>
    have e1 := d1 hy
    obtain ⟨rfl, rfl⟩ := Prod.mk.inj e1
    have C1 := Lib.hid c1
    have C2 := Lib.hid c2
    have C3 := Lib.hid (fun W hT => c3 W hT rfl)
    have C5 := Lib.hid (fun W hT => c5 W hT hy)
    generalize fBody s = b at C1 C2 C3 C5
    clear c1 c2 c3 c4 c5 c6 d1 d2 hl hm d3 e1 hy
    go_enter Tryd.func8, Tryd.ntmps8
    go_wp2_with (first
      | (go_at_call 19; refine (awake10 _ hT).mono ?_; rintro e w1 ⟨rfl, hb1⟩; have hT1 : Hid (TabOf w1) := Lib.hid (TabOf.below hT.out hb1))
      | (go_at_call 24; refine Calls.mono (C1.out _ hT1) ?_; rintro e w2 ⟨v2, rfl, hv2, hb2⟩; have hT2 : Hid (TabOf w2) := Lib.hid (TabOf.below hT1.out hb2))
      | (go_at_call 25; refine Calls.mono (C2.out _) ?_; rintro e w3 ⟨v3, rfl, hv3, hb3⟩; have hT3 : Hid (TabOf w3) := Lib.hid (TabOf.below hT2.out hb3))
      | (go_at_call 26; refine Calls.mono (C3.out _ hT3) ?_; rintro e w4 ⟨v4, rfl, hv4, hb4⟩; have hT4 : Hid (TabOf w4) := Lib.hid (TabOf.below hT3.out hb4))
      | (go_at_call 22; refine Calls.mono (C5.out _ hT4) ?_; rintro e w5 ⟨rfl, hb5⟩))
    have H2 := Lib.hid (((hv2.below hb3).below hb4).below hb5)
    have H3 := Lib.hid ((hv3.below hb4).below hb5)
    have H4 := Lib.hid (hv4.below hb5)
    have B5 := Lib.hid (G.bthen hb1 (G.bthen hb2 (G.bthen hb3 (G.bthen hb4 hb5))))
    clear hv2 hv3 hv4 hb1 hb2 hb3 hb4 hb5
    refine (same_any _ _ _ _ _ H2.out H3.out).mono ?_
    rintro e w6 ⟨rfl, hb6⟩
    obtain ⟨ad, c, rfl, _, _, hc⟩ := (H3.out.below hb6).shape (by simp)
    have hc0 := hc 0 (.string b) (by simp [strs])
    have H3' := Lib.hid (H3.out.below hb6)
    have H4' := Lib.hid (H4.out.below hb6)
    have Hc := Lib.hid hc0
    have B6 := Lib.hid (G.bthen B5.out hb6)
    clear hc hc0 H3 H2 H4 B5 hb6
    go_wp2_with (fail)
    refine (same_any _ _ _ _ _ H4'.out H3'.out).mono ?_
    rintro e w7 ⟨rfl, hb7⟩
    have hcell : w7.cell? ad = some (.string b) := G.cell_below hb7 Hc.out
    have B7 := Lib.hid (G.bthen B6.out hb7)
    clear H3' H4' B6 hb7
    go_wp2
    go_ret
    exact ⟨rfl, B7.out⟩
  | false =>
    by_cases hms : m = s.size
    · have hl1 : l.length ≠ 1 := fun h => by have := d2 h hms; rw [hy] at this; simp at this
      have hn1 : ((l.length : Int) == 1) = false := by rw [beq_eq_false_iff_ne]; omega
      subst hms
      have C1 := Lib.hid c1
      have C2 := Lib.hid c2
      have C3 := Lib.hid (fun W hT => c3 W hT rfl)
      have C5 := Lib.hid (fun W hT => c6 W hT hy)
      obtain ⟨n, hn⟩ : ∃ n, n = l.length := ⟨_, rfl⟩
      rw [← hn] at hn1
      have Hn := Lib.hid hn
      clear c1 c2 c3 c4 c5 c6 d1 d2 hl hm d3 hy hl1 hn
      go_enter Tryd.func8, Tryd.ntmps8
      go_wp2_with (first
        | (go_at_call 19; refine (awake10 _ hT).mono ?_; rintro e w1 ⟨rfl, hb1⟩; have hT1 : Hid (TabOf w1) := Lib.hid (TabOf.below hT.out hb1))
        | (go_at_call 24; refine Calls.mono (C1.out _ hT1) ?_; rintro e w2 ⟨v2, rfl, hv2, hb2⟩; have hT2 : Hid (TabOf w2) := Lib.hid (TabOf.below hT1.out hb2))
        | (go_at_call 25; refine Calls.mono (C2.out _) ?_; rintro e w3 ⟨v3, rfl, hv3, hb3⟩; have hT3 : Hid (TabOf w3) := Lib.hid (TabOf.below hT2.out hb3))
        | (go_at_call 26; refine Calls.mono (C3.out _ hT3) ?_; rintro e w4 ⟨v4, rfl, hv4, hb4⟩; have hT4 : Hid (TabOf w4) := Lib.hid (TabOf.below hT3.out hb4))
        | (go_at_call 22; refine Calls.mono (C5.out _ hT4) ?_; rintro e w5 ⟨rfl, hb5⟩))
      have H2 := Lib.hid (((hv2.below hb3).below hb4).below hb5)
      have H3 := Lib.hid ((hv3.below hb4).below hb5)
      have H4 := Lib.hid (hv4.below hb5)
      have B5 := Lib.hid (G.bthen hb1 (G.bthen hb2 (G.bthen hb3 (G.bthen hb4 hb5))))
      clear hv2 hv3 hv4 hb1 hb2 hb3 hb4 hb5
      refine (same_any _ _ _ _ _ H2.out H3.out).mono ?_
      rintro e w6 ⟨rfl, hb6⟩
      have hr3 : ∃ A c, v3 = .slice A n c := by obtain ⟨_, A, c, h, _⟩ := H3.out; exact ⟨A, c, by rw [h, Hn.out]⟩
      obtain ⟨A, c, rfl⟩ := hr3
      have H3' := Lib.hid (H3.out.below hb6)
      have H4' := Lib.hid (H4.out.below hb6)
      have B6 := Lib.hid (G.bthen B5.out hb6)
      clear H3 H2 H4 B5 hb6
      go_wp2_with (fail)
      refine (same_any _ _ _ _ _ H4'.out H3'.out).mono ?_
      rintro e w7 ⟨rfl, hb7⟩
      have B7 := Lib.hid (G.bthen B6.out hb7)
      clear H3' H4' B6 hb7
      go_wp2
      go_ret
      exact ⟨rfl, B7.out⟩
    · have hme : ((m : Int) == (s.size : Int)) = false := by rw [beq_eq_false_iff_ne]; omega
      have C1 := Lib.hid c1
      have C2 := Lib.hid c2
      have C3 := Lib.hid (fun W hT => c4 W hT hms)
      have C5 := Lib.hid (fun W hT => c6 W hT hy)
      obtain ⟨n, hn⟩ : ∃ n, n = l.length := ⟨_, rfl⟩
      obtain ⟨b, hb⟩ : ∃ b, b = ((n : Int) == 1) := ⟨_, rfl⟩
      have hnb : ((n : Int) == 1) = b := hb.symm
      have Hn := Lib.hid hn
      clear c1 c2 c3 c4 c5 c6 d1 d2 hl hm d3 hy hms hn hb
      cases b
      all_goals
        go_enter Tryd.func8, Tryd.ntmps8
        go_wp2_with (first
          | (go_at_call 19; refine (awake10 _ hT).mono ?_; rintro e w1 ⟨rfl, hb1⟩; have hT1 : Hid (TabOf w1) := Lib.hid (TabOf.below hT.out hb1))
          | (go_at_call 24; refine Calls.mono (C1.out _ hT1) ?_; rintro e w2 ⟨v2, rfl, hv2, hb2⟩; have hT2 : Hid (TabOf w2) := Lib.hid (TabOf.below hT1.out hb2))
          | (go_at_call 25; refine Calls.mono (C2.out _) ?_; rintro e w3 ⟨v3, rfl, hv3, hb3⟩; have hT3 : Hid (TabOf w3) := Lib.hid (TabOf.below hT2.out hb3))
          | (go_at_call 26; refine Calls.mono (C3.out _ hT3) ?_; rintro e w4 ⟨rfl, hb4⟩; have hT4 : Hid (TabOf w4) := Lib.hid (TabOf.below hT3.out hb4))
          | (go_at_call 22; refine Calls.mono (C5.out _ hT4) ?_; rintro e w5 ⟨rfl, hb5⟩))
        have H2 := Lib.hid (((hv2.below hb3).below hb4).below hb5)
        have H3 := Lib.hid ((hv3.below hb4).below hb5)
        have B5 := Lib.hid (G.bthen hb1 (G.bthen hb2 (G.bthen hb3 (G.bthen hb4 hb5))))
        clear hv2 hv3 hb1 hb2 hb3 hb4 hb5
        refine (same_any _ _ _ _ _ H2.out H3.out).mono ?_
        rintro e w6 ⟨rfl, hb6⟩
        have hr3 : ∃ A c, v3 = .slice A n c := by obtain ⟨_, A, c, h, _⟩ := H3.out; exact ⟨A, c, by rw [h, Hn.out]⟩
        obtain ⟨A, c, rfl⟩ := hr3
        have B6 := Lib.hid (G.bthen B5.out hb6)
        clear H3 H2 B5 hb6
        go_wp2
        go_ret
        exact ⟨rfl, B6.out⟩
end Go.Proofs.YtdmjbdecemajpaaDoor
