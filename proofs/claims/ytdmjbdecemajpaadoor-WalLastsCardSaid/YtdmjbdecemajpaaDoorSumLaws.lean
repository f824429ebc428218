/- The walks of the four laws of the sum: each returns true, from any memory that holds the table. -/
import Derived.Test.YtdmjbdecemajpaaDoorSumRef
import Derived.Deep.RegionWith
namespace Go.Proofs.YtdmjbdecemajpaaDoor
open Go.RowKit SumP

set_option maxRecDepth 100000 in
set_option maxHeartbeats 400000 in
theorem sumIs_walk (s : ByteArray) (hs : s.size ≤ 140737488351232) (n : Nat) (hn : n < 4294967296) (w : World) (hT : Hid (TabOf w)) :
    Calls Tryd.prog 3 #[.string s, .int .u32 n] w fun e w' => e = .returned (.bool true) ∧ Below w.heap.size w w' := by
  by_cases hl : 4000 < s.size
  · go_enter Tryd.func3, Tryd.ntmps3
    go_wp2_with (go_at_call 12; refine (awake08 _ hT).mono ?_; rintro e w' ⟨rfl, rfl⟩)
    go_ret
    exact ⟨rfl, Below.refl _ _⟩
  · go_enter Tryd.func3, Tryd.ntmps3
    go_wp2_with (first
      | (go_at_call 12; refine (awake08 _ hT).mono ?_; rintro e w' ⟨rfl, rfl⟩)
      | (go_at_call 13; refine (of_any s hs _ hT).mono ?_; rintro e w' ⟨rfl, rfl⟩)
      | (go_at_call 15; refine (on_any n hn s hs _ hT).mono ?_; rintro e w' ⟨rfl, rfl⟩)
      | (go_at_call_of 14 (Value.int .u32 0); refine (refOn_any 0 (by omega) s hs _).mono ?_; rintro e w' ⟨rfl, rfl⟩)
      | (go_at_call 14; refine (refOn_any n hn s hs _).mono ?_; rintro e w' ⟨rfl, rfl⟩))
    go_ret
    exact ⟨rfl, Below.refl _ _⟩

theorem onN_append (s t : ByteArray) : onN (onN 0 s) t = onN 0 (s ++ t) := by
  have h1 : nb (s ++ t) = nb s ++ nb t := by simp [nb]
  have h2 : run 4294967295 (nb s) < 4294967296 := run_lt _ (by omega) (nb_lt s)
  unfold onN
  rw [h1, run_append]
  simp only [Nat.sub_zero]
  rw [show 4294967295 - (4294967295 - run 4294967295 (nb s)) = run 4294967295 (nb s) by omega]

set_option maxRecDepth 100000 in
set_option maxHeartbeats 400000 in
theorem sumJoins_walk (s : ByteArray) (hs : s.size ≤ 140737488351232) (t : ByteArray) (ht : t.size ≤ 140737488351232) (w : World) (hT : Hid (TabOf w)) :
    Calls Tryd.prog 4 #[.string s, .string t] w fun e w' => e = .returned (.bool true) ∧ Below w.heap.size w w' := by
  by_cases hl : 4000 < s.size + t.size
  · go_enter Tryd.func4, Tryd.ntmps4
    go_wp2_with (go_at_call 12; refine (awake08 _ hT).mono ?_; rintro e w' ⟨rfl, rfl⟩)
    go_ret
    exact ⟨rfl, Below.refl _ _⟩
  · have hst : (s ++ t).size ≤ 140737488351232 := by rw [ByteArray.size_append]; omega
    have hj := onN_append s t
    have Hj := Lib.hid hj
    clear hj
    have ho := onN_lt 0 s
    obtain ⟨q, hq⟩ : ∃ q, q = onN 0 s := ⟨_, rfl⟩
    have h13 := of_any s hs w hT
    have h15 := on_any q (by omega) t ht w hT
    have h13' := of_any (s ++ t) hst w hT
    rw [← hq] at h13
    rw [hq, Hj.out, ← hq] at h15
    have H13 := Lib.hid h13; have H15 := Lib.hid h15; have H13' := Lib.hid h13'
    clear h13 h15 h13' hq ho Hj
    go_enter Tryd.func4, Tryd.ntmps4
    go_wp2_with (first
      | (go_at_call 12; refine (awake08 _ hT).mono ?_; rintro e w' ⟨rfl, rfl⟩)
      | (go_at_call_of 13 (Value.string s); refine Calls.mono H13.out ?_; rintro e w' ⟨rfl, rfl⟩)
      | (go_at_call 15; refine Calls.mono H15.out ?_; rintro e w' ⟨rfl, rfl⟩)
      | (go_at_call 13; refine Calls.mono H13'.out ?_; rintro e w' ⟨rfl, rfl⟩))
    go_ret
    exact ⟨rfl, Below.refl _ _⟩

theorem below_then {w w1 w2 : World} (h : Below w.heap.size w w1) (k : Below w1.heap.size w1 w2) : Below w.heap.size w w2 :=
  h.trans ⟨k.os, k.tape, k.output, k.size, fun i hi => k.block i (Nat.lt_of_lt_of_le hi h.size)⟩

set_option maxRecDepth 100000 in
set_option maxHeartbeats 400000 in
theorem sumBytes_walk (n : Nat) (hn : n < 4294967296) (s : ByteArray) (_ : s.size ≤ 140737488351232) (w : World) (hT : Hid (TabOf w)) :
    Calls Tryd.prog 6 #[.int .u32 n, .string s] w fun e w' => e = .returned (.bool true) ∧ Below w.heap.size w w' := by
  have h17 := fun W => read_any (layS n) (layS_size n) W
  rw [rdN_layS n hn] at h17
  have H17 := Lib.hid h17
  clear h17
  by_cases h4 : s.size = 4
  · have h17s := fun W => read_any s h4 W
    have H17s := Lib.hid h17s
    have h16s := fun W => lay_any (rdN s) (rdN_lt s) W
    rw [layS_rdN s h4] at h16s
    have H16s := Lib.hid h16s
    clear h17s h16s
    have h4' : ((s.size : Int) != 4) = false := by rw [h4]; rfl
    have H4 := Lib.hid h4
    clear h4
    obtain ⟨q, hq⟩ : ∃ q, q = rdN s := ⟨_, rfl⟩
    rw [← hq] at H16s H17s
    clear hq
    go_enter Tryd.func6, Tryd.ntmps6
    go_wp2_with (first
      | (go_at_call 12; refine (awake08 _ hT).mono ?_; rintro e w' ⟨rfl, rfl⟩)
      | (go_at_call_of 16 (Value.int .u32 (n : Int)); refine (lay_any n hn _).mono ?_; rintro e w1 ⟨rfl, hb1⟩)
      | (go_at_call 16; refine Calls.mono (H16s.out _) ?_; rintro e w5 ⟨rfl, hb5⟩)
      | (go_at_call_of 17 (Value.string s); refine Calls.mono (H17s.out _) ?_; rintro e w3 ⟨rfl, hb3⟩)
      | (go_at_call 17; refine Calls.mono (H17.out _) ?_; rintro e w2 ⟨rfl, hb2⟩)
      | (go_at_call 18; refine (refLay_any n hn _).mono ?_; rintro e w4 ⟨rfl, hb4⟩))
    go_goals
    go_ret
    exact ⟨rfl, below_then hb1 (below_then hb2 (below_then hb3 (below_then hb4 hb5)))⟩
  · have h4' : ((s.size : Int) != 4) = true := by rw [bne_iff_ne]; omega
    have H4 := Lib.hid h4
    clear h4
    go_enter Tryd.func6, Tryd.ntmps6
    go_wp2_with (first
      | (go_at_call 12; refine (awake08 _ hT).mono ?_; rintro e w' ⟨rfl, rfl⟩)
      | (go_at_call_of 16 (Value.int .u32 (n : Int)); refine (lay_any n hn _).mono ?_; rintro e w1 ⟨rfl, hb1⟩)
      | (go_at_call_of 17 (Value.string s); refine Calls.mono (read_none s H4.out _) ?_; rintro e w3 ⟨rfl, hb3⟩)
      | (go_at_call 17; refine Calls.mono (H17.out _) ?_; rintro e w2 ⟨rfl, hb2⟩)
      | (go_at_call 18; refine (refLay_any n hn _).mono ?_; rintro e w4 ⟨rfl, hb4⟩))
    go_goals
    go_ret
    exact ⟨rfl, below_then hb1 (below_then hb2 (below_then hb3 hb4))⟩
end Go.Proofs.YtdmjbdecemajpaaDoor
