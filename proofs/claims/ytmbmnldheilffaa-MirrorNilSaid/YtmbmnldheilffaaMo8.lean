/- More than is gone through: of an object. -/
import Derived.Test.YtmbmnldheilffaaMo6
import Derived.Test.YtmbmnldheilffaaMo7
namespace Go.Proofs.Ytmbmnldheilffaa
set_option linter.unusedVariables false
set_option linter.unusedSimpArgs false
open Go.RowKit
def lens (o : Ob) : Int := o.name.size + o.status.size + o.v4.size + o.v6.size + o.sel.size + o.about.size + o.reason.size
def longO (o : Ob) : Bool := decide ((5000 : Int) < lens o) || (decide ((40 : Int) < o.fams.length) || (longPairs o.labels || (longTexts o.fins || (longTexts o.cidrs || longTexts o.ips))))
theorem box_one (w : World) (cs : Array Value) (T : TypeId) : ∃ w1, w1 = w.alloc (.cells cs T) ∧ Below w.heap.size w w1 ∧ w1.heap[w.heap.size]? = some (.cells cs T (0, 0)) := ⟨_, rfl, bel_alloc _ _, G.heap_new _ _⟩
theorem long_le (o : Ob) (h : longO o = false) : o.fins.length ≤ 40 ∧ o.labels.length ≤ 40 ∧ o.cidrs.length ≤ 40 ∧ o.fams.length ≤ 40 ∧ o.ips.length ≤ 40 := by
  simp only [longO, longTexts, longPairs, Bool.or_eq_false_iff, decide_eq_false_iff_not] at h
  omega
set_option maxRecDepth 100000 in
set_option maxHeartbeats 4000000 in
theorem long_a (o : Ob) (f l c p i : Sl) (hz : ObSz o) (h0 : (5000 : Int) < lens o) (w : World) (hr : RowsR w o f l c p i) :
    Calls Try.prog 15 #[.agg (oc o f l c p i)] w fun e w' => e = .returned (.bool (longO o)) ∧ Below w.heap.size w w' := by
  obtain ⟨w1, hw1, b1, p1⟩ := box_one w (oc o f l c p i) 26
  obtain ⟨x, hx⟩ : ∃ x, x = w.heap.size := ⟨_, rfl⟩
  rw [← hx] at p1
  have x1 : w1.cell? ⟨x, 1, none⟩ = some (.string o.name) := by simp [World.cell?, p1, oc]
  have x8 : w1.cell? ⟨x, 8, none⟩ = some (.string o.status) := by simp [World.cell?, p1, oc]
  have x13 : w1.cell? ⟨x, 13, none⟩ = some (.string o.v4) := by simp [World.cell?, p1, oc]
  have x14 : w1.cell? ⟨x, 14, none⟩ = some (.string o.v6) := by simp [World.cell?, p1, oc]
  have x16 : w1.cell? ⟨x, 16, none⟩ = some (.string o.sel) := by simp [World.cell?, p1, oc]
  have x17 : w1.cell? ⟨x, 17, none⟩ = some (.string o.about) := by simp [World.cell?, p1, oc]
  have x18 : w1.cell? ⟨x, 18, none⟩ = some (.string o.reason) := by simp [World.cell?, p1, oc]
  have x11 : w1.cell? ⟨x, 11, none⟩ = some (.slice p.A o.fams.length p.c) := by simp [World.cell?, p1, oc]
  have x6 : w1.cell? ⟨x, 6, none⟩ = some (.slice l.A o.labels.length l.c) := by simp [World.cell?, p1, oc]
  have x5 : w1.cell? ⟨x, 5, none⟩ = some (.slice f.A o.fins.length f.c) := by simp [World.cell?, p1, oc]
  have x7 : w1.cell? ⟨x, 7, none⟩ = some (.slice c.A o.cidrs.length c.c) := by simp [World.cell?, p1, oc]
  have x12 : w1.cell? ⟨x, 12, none⟩ = some (.slice i.A o.ips.length i.c) := by simp [World.cell?, p1, oc]
  have s1 := hz.s o.name (by simp)
  have s8 := hz.s o.status (by simp)
  have s13 := hz.s o.v4 (by simp)
  have s14 := hz.s o.v6 (by simp)
  have s16 := hz.s o.sel (by simp)
  have s17 := hz.s o.about (by simp)
  have s18 := hz.s o.reason (by simp)
  have hL : lens o = (o.name.size : Int) + o.status.size + o.v4.size + o.v6.size + o.sel.size + o.about.size + o.reason.size := rfl
  have hS : longO o = true := by simp [longO, h0]
  rw [hL] at h0
  have HS := Lib.hid hS
  have H0 : decide ((5000 : Int) < (o.name.size : Int) + o.status.size + o.v4.size + o.v6.size + o.sel.size + o.about.size + o.reason.size) = true := decide_eq_true h0
  have R1 := Lib.hid (hr.below b1)
  have HW := Lib.hid hw1
  have B1 := Lib.hid b1
  clear b1 p1 hw1 hr hz hL hS h0 
  go_enter Try.func15, Try.ntmps15
  go_upto_region 1 with (fail)
  rw [← HW.out, ← hx]
  clear hx
  go_wp2
  go_ret
  exact ⟨by rw [HS.out]; rfl, B1.out⟩
set_option maxRecDepth 100000 in
set_option maxHeartbeats 4000000 in
theorem long_b (o : Ob) (f l c p i : Sl) (hz : ObSz o) (h0 : ¬ (5000 : Int) < lens o) (h1 : (40 : Int) < o.fams.length) (w : World) (hr : RowsR w o f l c p i) :
    Calls Try.prog 15 #[.agg (oc o f l c p i)] w fun e w' => e = .returned (.bool (longO o)) ∧ Below w.heap.size w w' := by
  obtain ⟨w1, hw1, b1, p1⟩ := box_one w (oc o f l c p i) 26
  obtain ⟨x, hx⟩ : ∃ x, x = w.heap.size := ⟨_, rfl⟩
  rw [← hx] at p1
  have x1 : w1.cell? ⟨x, 1, none⟩ = some (.string o.name) := by simp [World.cell?, p1, oc]
  have x8 : w1.cell? ⟨x, 8, none⟩ = some (.string o.status) := by simp [World.cell?, p1, oc]
  have x13 : w1.cell? ⟨x, 13, none⟩ = some (.string o.v4) := by simp [World.cell?, p1, oc]
  have x14 : w1.cell? ⟨x, 14, none⟩ = some (.string o.v6) := by simp [World.cell?, p1, oc]
  have x16 : w1.cell? ⟨x, 16, none⟩ = some (.string o.sel) := by simp [World.cell?, p1, oc]
  have x17 : w1.cell? ⟨x, 17, none⟩ = some (.string o.about) := by simp [World.cell?, p1, oc]
  have x18 : w1.cell? ⟨x, 18, none⟩ = some (.string o.reason) := by simp [World.cell?, p1, oc]
  have x11 : w1.cell? ⟨x, 11, none⟩ = some (.slice p.A o.fams.length p.c) := by simp [World.cell?, p1, oc]
  have x6 : w1.cell? ⟨x, 6, none⟩ = some (.slice l.A o.labels.length l.c) := by simp [World.cell?, p1, oc]
  have x5 : w1.cell? ⟨x, 5, none⟩ = some (.slice f.A o.fins.length f.c) := by simp [World.cell?, p1, oc]
  have x7 : w1.cell? ⟨x, 7, none⟩ = some (.slice c.A o.cidrs.length c.c) := by simp [World.cell?, p1, oc]
  have x12 : w1.cell? ⟨x, 12, none⟩ = some (.slice i.A o.ips.length i.c) := by simp [World.cell?, p1, oc]
  have s1 := hz.s o.name (by simp)
  have s8 := hz.s o.status (by simp)
  have s13 := hz.s o.v4 (by simp)
  have s14 := hz.s o.v6 (by simp)
  have s16 := hz.s o.sel (by simp)
  have s17 := hz.s o.about (by simp)
  have s18 := hz.s o.reason (by simp)
  have hL : lens o = (o.name.size : Int) + o.status.size + o.v4.size + o.v6.size + o.sel.size + o.about.size + o.reason.size := rfl
  have hS : longO o = true := by simp [longO, h0, h1]
  rw [hL] at h0
  have HS := Lib.hid hS
  have H0 : decide ((5000 : Int) < (o.name.size : Int) + o.status.size + o.v4.size + o.v6.size + o.sel.size + o.about.size + o.reason.size) = false := decide_eq_false h0
  have H1 : decide ((40 : Int) < (o.fams.length : Int)) = true := decide_eq_true h1
  have R1 := Lib.hid (hr.below b1)
  have HW := Lib.hid hw1
  have B1 := Lib.hid b1
  clear b1 p1 hw1 hr hz hL hS h0 h1
  go_enter Try.func15, Try.ntmps15
  go_upto_region 1 with (fail)
  rw [← HW.out, ← hx]
  clear hx
  go_wp2
  go_ret
  exact ⟨by rw [HS.out]; rfl, B1.out⟩
set_option maxRecDepth 100000 in
set_option maxHeartbeats 4000000 in
theorem long_c (o : Ob) (f l c p i : Sl) (hz : ObSz o) (h0 : ¬ (5000 : Int) < lens o) (h1 : ¬ (40 : Int) < o.fams.length) (h2 : longPairs o.labels = true) (w : World) (hr : RowsR w o f l c p i) :
    Calls Try.prog 15 #[.agg (oc o f l c p i)] w fun e w' => e = .returned (.bool (longO o)) ∧ Below w.heap.size w w' := by
  obtain ⟨w1, hw1, b1, p1⟩ := box_one w (oc o f l c p i) 26
  obtain ⟨x, hx⟩ : ∃ x, x = w.heap.size := ⟨_, rfl⟩
  rw [← hx] at p1
  have x1 : w1.cell? ⟨x, 1, none⟩ = some (.string o.name) := by simp [World.cell?, p1, oc]
  have x8 : w1.cell? ⟨x, 8, none⟩ = some (.string o.status) := by simp [World.cell?, p1, oc]
  have x13 : w1.cell? ⟨x, 13, none⟩ = some (.string o.v4) := by simp [World.cell?, p1, oc]
  have x14 : w1.cell? ⟨x, 14, none⟩ = some (.string o.v6) := by simp [World.cell?, p1, oc]
  have x16 : w1.cell? ⟨x, 16, none⟩ = some (.string o.sel) := by simp [World.cell?, p1, oc]
  have x17 : w1.cell? ⟨x, 17, none⟩ = some (.string o.about) := by simp [World.cell?, p1, oc]
  have x18 : w1.cell? ⟨x, 18, none⟩ = some (.string o.reason) := by simp [World.cell?, p1, oc]
  have x11 : w1.cell? ⟨x, 11, none⟩ = some (.slice p.A o.fams.length p.c) := by simp [World.cell?, p1, oc]
  have x6 : w1.cell? ⟨x, 6, none⟩ = some (.slice l.A o.labels.length l.c) := by simp [World.cell?, p1, oc]
  have x5 : w1.cell? ⟨x, 5, none⟩ = some (.slice f.A o.fins.length f.c) := by simp [World.cell?, p1, oc]
  have x7 : w1.cell? ⟨x, 7, none⟩ = some (.slice c.A o.cidrs.length c.c) := by simp [World.cell?, p1, oc]
  have x12 : w1.cell? ⟨x, 12, none⟩ = some (.slice i.A o.ips.length i.c) := by simp [World.cell?, p1, oc]
  have s1 := hz.s o.name (by simp)
  have s8 := hz.s o.status (by simp)
  have s13 := hz.s o.v4 (by simp)
  have s14 := hz.s o.v6 (by simp)
  have s16 := hz.s o.sel (by simp)
  have s17 := hz.s o.about (by simp)
  have s18 := hz.s o.reason (by simp)
  have hL : lens o = (o.name.size : Int) + o.status.size + o.v4.size + o.v6.size + o.sel.size + o.about.size + o.reason.size := rfl
  have hS : longO o = true := by simp [longO, h0, h1, h2]
  rw [hL] at h0
  have HS := Lib.hid hS
  have H0 : decide ((5000 : Int) < (o.name.size : Int) + o.status.size + o.v4.size + o.v6.size + o.sel.size + o.about.size + o.reason.size) = false := decide_eq_false h0
  have H1 : decide ((40 : Int) < (o.fams.length : Int)) = false := decide_eq_false h1
  have R1 := Lib.hid (hr.below b1)
  have C0 := Lib.hid (fun V (h : Below w1.heap.size w1 V) => longL_any o.labels l.A l.c V (R1.out.below h).lr)
  have E0 := Lib.hid h2
  have HW := Lib.hid hw1
  have B1 := Lib.hid b1
  clear b1 p1 hw1 hr hz hL hS h0 h1 h2
  go_enter Try.func15, Try.ntmps15
  go_upto_region 1 with (fail)
  rw [← HW.out, ← hx]
  clear hx
  go_wp2_with (fail)
  refine (C0.out _ (Below.refl _ _)).mono ?_
  rintro e v0 ⟨rfl, hb0⟩
  rw [E0.out]
  have K0 := Lib.hid (show Below w1.heap.size w1 v0 from hb0)
  clear hb0
  go_wp2
  go_ret
  exact ⟨by rw [HS.out]; rfl, B1.out.trans (belowLe B1.out.size K0.out)⟩
set_option maxRecDepth 100000 in
set_option maxHeartbeats 4000000 in
theorem long_d (o : Ob) (f l c p i : Sl) (hz : ObSz o) (h0 : ¬ (5000 : Int) < lens o) (h1 : ¬ (40 : Int) < o.fams.length) (h2 : longPairs o.labels = false) (h3 : longTexts o.fins = true) (w : World) (hr : RowsR w o f l c p i) :
    Calls Try.prog 15 #[.agg (oc o f l c p i)] w fun e w' => e = .returned (.bool (longO o)) ∧ Below w.heap.size w w' := by
  obtain ⟨w1, hw1, b1, p1⟩ := box_one w (oc o f l c p i) 26
  obtain ⟨x, hx⟩ : ∃ x, x = w.heap.size := ⟨_, rfl⟩
  rw [← hx] at p1
  have x1 : w1.cell? ⟨x, 1, none⟩ = some (.string o.name) := by simp [World.cell?, p1, oc]
  have x8 : w1.cell? ⟨x, 8, none⟩ = some (.string o.status) := by simp [World.cell?, p1, oc]
  have x13 : w1.cell? ⟨x, 13, none⟩ = some (.string o.v4) := by simp [World.cell?, p1, oc]
  have x14 : w1.cell? ⟨x, 14, none⟩ = some (.string o.v6) := by simp [World.cell?, p1, oc]
  have x16 : w1.cell? ⟨x, 16, none⟩ = some (.string o.sel) := by simp [World.cell?, p1, oc]
  have x17 : w1.cell? ⟨x, 17, none⟩ = some (.string o.about) := by simp [World.cell?, p1, oc]
  have x18 : w1.cell? ⟨x, 18, none⟩ = some (.string o.reason) := by simp [World.cell?, p1, oc]
  have x11 : w1.cell? ⟨x, 11, none⟩ = some (.slice p.A o.fams.length p.c) := by simp [World.cell?, p1, oc]
  have x6 : w1.cell? ⟨x, 6, none⟩ = some (.slice l.A o.labels.length l.c) := by simp [World.cell?, p1, oc]
  have x5 : w1.cell? ⟨x, 5, none⟩ = some (.slice f.A o.fins.length f.c) := by simp [World.cell?, p1, oc]
  have x7 : w1.cell? ⟨x, 7, none⟩ = some (.slice c.A o.cidrs.length c.c) := by simp [World.cell?, p1, oc]
  have x12 : w1.cell? ⟨x, 12, none⟩ = some (.slice i.A o.ips.length i.c) := by simp [World.cell?, p1, oc]
  have s1 := hz.s o.name (by simp)
  have s8 := hz.s o.status (by simp)
  have s13 := hz.s o.v4 (by simp)
  have s14 := hz.s o.v6 (by simp)
  have s16 := hz.s o.sel (by simp)
  have s17 := hz.s o.about (by simp)
  have s18 := hz.s o.reason (by simp)
  have hL : lens o = (o.name.size : Int) + o.status.size + o.v4.size + o.v6.size + o.sel.size + o.about.size + o.reason.size := rfl
  have hS : longO o = true := by simp [longO, h0, h1, h2, h3]
  rw [hL] at h0
  have HS := Lib.hid hS
  have H0 : decide ((5000 : Int) < (o.name.size : Int) + o.status.size + o.v4.size + o.v6.size + o.sel.size + o.about.size + o.reason.size) = false := decide_eq_false h0
  have H1 : decide ((40 : Int) < (o.fams.length : Int)) = false := decide_eq_false h1
  have R1 := Lib.hid (hr.below b1)
  have C0 := Lib.hid (fun V (h : Below w1.heap.size w1 V) => longL_any o.labels l.A l.c V (R1.out.below h).lr)
  have E0 := Lib.hid h2
  have C1 := Lib.hid (fun V (h : Below w1.heap.size w1 V) => longT_any o.fins f.A f.c V (R1.out.below h).fr)
  have E1 := Lib.hid h3
  have HW := Lib.hid hw1
  have B1 := Lib.hid b1
  clear b1 p1 hw1 hr hz hL hS h0 h1 h2 h3
  go_enter Try.func15, Try.ntmps15
  go_upto_region 1 with (fail)
  rw [← HW.out, ← hx]
  clear hx
  go_wp2_with (fail)
  refine (C0.out _ (Below.refl _ _)).mono ?_
  rintro e v0 ⟨rfl, hb0⟩
  rw [E0.out]
  have K0 := Lib.hid (show Below w1.heap.size w1 v0 from hb0)
  have x11_0 : v0.cell? ⟨x, 11, none⟩ = some (.slice p.A o.fams.length p.c) := G.cell_below K0.out x11
  have x6_0 : v0.cell? ⟨x, 6, none⟩ = some (.slice l.A o.labels.length l.c) := G.cell_below K0.out x6
  have x5_0 : v0.cell? ⟨x, 5, none⟩ = some (.slice f.A o.fins.length f.c) := G.cell_below K0.out x5
  have x7_0 : v0.cell? ⟨x, 7, none⟩ = some (.slice c.A o.cidrs.length c.c) := G.cell_below K0.out x7
  have x12_0 : v0.cell? ⟨x, 12, none⟩ = some (.slice i.A o.ips.length i.c) := G.cell_below K0.out x12
  clear hb0
  go_wp2_with (fail)
  refine (C1.out _ (K0.out)).mono ?_
  rintro e v1 ⟨rfl, hb1⟩
  rw [E1.out]
  have K1 := Lib.hid (show Below w1.heap.size w1 v1 from K0.out.trans (belowLe K0.out.size hb1))
  clear hb1
  go_wp2
  go_ret
  exact ⟨by rw [HS.out]; rfl, B1.out.trans (belowLe B1.out.size K1.out)⟩
set_option maxRecDepth 100000 in
set_option maxHeartbeats 4000000 in
theorem long_e (o : Ob) (f l c p i : Sl) (hz : ObSz o) (h0 : ¬ (5000 : Int) < lens o) (h1 : ¬ (40 : Int) < o.fams.length) (h2 : longPairs o.labels = false) (h3 : longTexts o.fins = false) (h4 : longTexts o.cidrs = true) (w : World) (hr : RowsR w o f l c p i) :
    Calls Try.prog 15 #[.agg (oc o f l c p i)] w fun e w' => e = .returned (.bool (longO o)) ∧ Below w.heap.size w w' := by
  obtain ⟨w1, hw1, b1, p1⟩ := box_one w (oc o f l c p i) 26
  obtain ⟨x, hx⟩ : ∃ x, x = w.heap.size := ⟨_, rfl⟩
  rw [← hx] at p1
  have x1 : w1.cell? ⟨x, 1, none⟩ = some (.string o.name) := by simp [World.cell?, p1, oc]
  have x8 : w1.cell? ⟨x, 8, none⟩ = some (.string o.status) := by simp [World.cell?, p1, oc]
  have x13 : w1.cell? ⟨x, 13, none⟩ = some (.string o.v4) := by simp [World.cell?, p1, oc]
  have x14 : w1.cell? ⟨x, 14, none⟩ = some (.string o.v6) := by simp [World.cell?, p1, oc]
  have x16 : w1.cell? ⟨x, 16, none⟩ = some (.string o.sel) := by simp [World.cell?, p1, oc]
  have x17 : w1.cell? ⟨x, 17, none⟩ = some (.string o.about) := by simp [World.cell?, p1, oc]
  have x18 : w1.cell? ⟨x, 18, none⟩ = some (.string o.reason) := by simp [World.cell?, p1, oc]
  have x11 : w1.cell? ⟨x, 11, none⟩ = some (.slice p.A o.fams.length p.c) := by simp [World.cell?, p1, oc]
  have x6 : w1.cell? ⟨x, 6, none⟩ = some (.slice l.A o.labels.length l.c) := by simp [World.cell?, p1, oc]
  have x5 : w1.cell? ⟨x, 5, none⟩ = some (.slice f.A o.fins.length f.c) := by simp [World.cell?, p1, oc]
  have x7 : w1.cell? ⟨x, 7, none⟩ = some (.slice c.A o.cidrs.length c.c) := by simp [World.cell?, p1, oc]
  have x12 : w1.cell? ⟨x, 12, none⟩ = some (.slice i.A o.ips.length i.c) := by simp [World.cell?, p1, oc]
  have s1 := hz.s o.name (by simp)
  have s8 := hz.s o.status (by simp)
  have s13 := hz.s o.v4 (by simp)
  have s14 := hz.s o.v6 (by simp)
  have s16 := hz.s o.sel (by simp)
  have s17 := hz.s o.about (by simp)
  have s18 := hz.s o.reason (by simp)
  have hL : lens o = (o.name.size : Int) + o.status.size + o.v4.size + o.v6.size + o.sel.size + o.about.size + o.reason.size := rfl
  have hS : longO o = true := by simp [longO, h0, h1, h2, h3, h4]
  rw [hL] at h0
  have HS := Lib.hid hS
  have H0 : decide ((5000 : Int) < (o.name.size : Int) + o.status.size + o.v4.size + o.v6.size + o.sel.size + o.about.size + o.reason.size) = false := decide_eq_false h0
  have H1 : decide ((40 : Int) < (o.fams.length : Int)) = false := decide_eq_false h1
  have R1 := Lib.hid (hr.below b1)
  have C0 := Lib.hid (fun V (h : Below w1.heap.size w1 V) => longL_any o.labels l.A l.c V (R1.out.below h).lr)
  have E0 := Lib.hid h2
  have C1 := Lib.hid (fun V (h : Below w1.heap.size w1 V) => longT_any o.fins f.A f.c V (R1.out.below h).fr)
  have E1 := Lib.hid h3
  have C2 := Lib.hid (fun V (h : Below w1.heap.size w1 V) => longT_any o.cidrs c.A c.c V (R1.out.below h).cr)
  have E2 := Lib.hid h4
  have HW := Lib.hid hw1
  have B1 := Lib.hid b1
  clear b1 p1 hw1 hr hz hL hS h0 h1 h2 h3 h4
  go_enter Try.func15, Try.ntmps15
  go_upto_region 1 with (fail)
  rw [← HW.out, ← hx]
  clear hx
  go_wp2_with (fail)
  refine (C0.out _ (Below.refl _ _)).mono ?_
  rintro e v0 ⟨rfl, hb0⟩
  rw [E0.out]
  have K0 := Lib.hid (show Below w1.heap.size w1 v0 from hb0)
  have x11_0 : v0.cell? ⟨x, 11, none⟩ = some (.slice p.A o.fams.length p.c) := G.cell_below K0.out x11
  have x6_0 : v0.cell? ⟨x, 6, none⟩ = some (.slice l.A o.labels.length l.c) := G.cell_below K0.out x6
  have x5_0 : v0.cell? ⟨x, 5, none⟩ = some (.slice f.A o.fins.length f.c) := G.cell_below K0.out x5
  have x7_0 : v0.cell? ⟨x, 7, none⟩ = some (.slice c.A o.cidrs.length c.c) := G.cell_below K0.out x7
  have x12_0 : v0.cell? ⟨x, 12, none⟩ = some (.slice i.A o.ips.length i.c) := G.cell_below K0.out x12
  clear hb0
  go_wp2_with (fail)
  refine (C1.out _ (K0.out)).mono ?_
  rintro e v1 ⟨rfl, hb1⟩
  rw [E1.out]
  have K1 := Lib.hid (show Below w1.heap.size w1 v1 from K0.out.trans (belowLe K0.out.size hb1))
  have x11_1 : v1.cell? ⟨x, 11, none⟩ = some (.slice p.A o.fams.length p.c) := G.cell_below K1.out x11
  have x6_1 : v1.cell? ⟨x, 6, none⟩ = some (.slice l.A o.labels.length l.c) := G.cell_below K1.out x6
  have x5_1 : v1.cell? ⟨x, 5, none⟩ = some (.slice f.A o.fins.length f.c) := G.cell_below K1.out x5
  have x7_1 : v1.cell? ⟨x, 7, none⟩ = some (.slice c.A o.cidrs.length c.c) := G.cell_below K1.out x7
  have x12_1 : v1.cell? ⟨x, 12, none⟩ = some (.slice i.A o.ips.length i.c) := G.cell_below K1.out x12
  clear hb1
  go_wp2_with (fail)
  refine (C2.out _ (K1.out)).mono ?_
  rintro e v2 ⟨rfl, hb2⟩
  rw [E2.out]
  have K2 := Lib.hid (show Below w1.heap.size w1 v2 from K1.out.trans (belowLe K1.out.size hb2))
  clear hb2
  go_wp2
  go_ret
  exact ⟨by rw [HS.out]; rfl, B1.out.trans (belowLe B1.out.size K2.out)⟩
set_option maxRecDepth 100000 in
set_option maxHeartbeats 4000000 in
theorem long_f (o : Ob) (f l c p i : Sl) (hz : ObSz o) (h0 : ¬ (5000 : Int) < lens o) (h1 : ¬ (40 : Int) < o.fams.length) (h2 : longPairs o.labels = false) (h3 : longTexts o.fins = false) (h4 : longTexts o.cidrs = false) (w : World) (hr : RowsR w o f l c p i) :
    Calls Try.prog 15 #[.agg (oc o f l c p i)] w fun e w' => e = .returned (.bool (longO o)) ∧ Below w.heap.size w w' := by
  obtain ⟨w1, hw1, b1, p1⟩ := box_one w (oc o f l c p i) 26
  obtain ⟨x, hx⟩ : ∃ x, x = w.heap.size := ⟨_, rfl⟩
  rw [← hx] at p1
  have x1 : w1.cell? ⟨x, 1, none⟩ = some (.string o.name) := by simp [World.cell?, p1, oc]
  have x8 : w1.cell? ⟨x, 8, none⟩ = some (.string o.status) := by simp [World.cell?, p1, oc]
  have x13 : w1.cell? ⟨x, 13, none⟩ = some (.string o.v4) := by simp [World.cell?, p1, oc]
  have x14 : w1.cell? ⟨x, 14, none⟩ = some (.string o.v6) := by simp [World.cell?, p1, oc]
  have x16 : w1.cell? ⟨x, 16, none⟩ = some (.string o.sel) := by simp [World.cell?, p1, oc]
  have x17 : w1.cell? ⟨x, 17, none⟩ = some (.string o.about) := by simp [World.cell?, p1, oc]
  have x18 : w1.cell? ⟨x, 18, none⟩ = some (.string o.reason) := by simp [World.cell?, p1, oc]
  have x11 : w1.cell? ⟨x, 11, none⟩ = some (.slice p.A o.fams.length p.c) := by simp [World.cell?, p1, oc]
  have x6 : w1.cell? ⟨x, 6, none⟩ = some (.slice l.A o.labels.length l.c) := by simp [World.cell?, p1, oc]
  have x5 : w1.cell? ⟨x, 5, none⟩ = some (.slice f.A o.fins.length f.c) := by simp [World.cell?, p1, oc]
  have x7 : w1.cell? ⟨x, 7, none⟩ = some (.slice c.A o.cidrs.length c.c) := by simp [World.cell?, p1, oc]
  have x12 : w1.cell? ⟨x, 12, none⟩ = some (.slice i.A o.ips.length i.c) := by simp [World.cell?, p1, oc]
  have s1 := hz.s o.name (by simp)
  have s8 := hz.s o.status (by simp)
  have s13 := hz.s o.v4 (by simp)
  have s14 := hz.s o.v6 (by simp)
  have s16 := hz.s o.sel (by simp)
  have s17 := hz.s o.about (by simp)
  have s18 := hz.s o.reason (by simp)
  have hL : lens o = (o.name.size : Int) + o.status.size + o.v4.size + o.v6.size + o.sel.size + o.about.size + o.reason.size := rfl
  have hS : longO o = longTexts o.ips := by simp [longO, h0, h1, h2, h3, h4]
  rw [hL] at h0
  have HS := Lib.hid hS
  have H0 : decide ((5000 : Int) < (o.name.size : Int) + o.status.size + o.v4.size + o.v6.size + o.sel.size + o.about.size + o.reason.size) = false := decide_eq_false h0
  have H1 : decide ((40 : Int) < (o.fams.length : Int)) = false := decide_eq_false h1
  have R1 := Lib.hid (hr.below b1)
  have C0 := Lib.hid (fun V (h : Below w1.heap.size w1 V) => longL_any o.labels l.A l.c V (R1.out.below h).lr)
  have E0 := Lib.hid h2
  have C1 := Lib.hid (fun V (h : Below w1.heap.size w1 V) => longT_any o.fins f.A f.c V (R1.out.below h).fr)
  have E1 := Lib.hid h3
  have C2 := Lib.hid (fun V (h : Below w1.heap.size w1 V) => longT_any o.cidrs c.A c.c V (R1.out.below h).cr)
  have E2 := Lib.hid h4
  have C3 := Lib.hid (fun V (h : Below w1.heap.size w1 V) => longT_any o.ips i.A i.c V (R1.out.below h).ir)
  have HW := Lib.hid hw1
  have B1 := Lib.hid b1
  clear b1 p1 hw1 hr hz hL hS h0 h1 h2 h3 h4
  go_enter Try.func15, Try.ntmps15
  go_upto_region 1 with (fail)
  rw [← HW.out, ← hx]
  clear hx
  go_wp2_with (fail)
  refine (C0.out _ (Below.refl _ _)).mono ?_
  rintro e v0 ⟨rfl, hb0⟩
  rw [E0.out]
  have K0 := Lib.hid (show Below w1.heap.size w1 v0 from hb0)
  have x11_0 : v0.cell? ⟨x, 11, none⟩ = some (.slice p.A o.fams.length p.c) := G.cell_below K0.out x11
  have x6_0 : v0.cell? ⟨x, 6, none⟩ = some (.slice l.A o.labels.length l.c) := G.cell_below K0.out x6
  have x5_0 : v0.cell? ⟨x, 5, none⟩ = some (.slice f.A o.fins.length f.c) := G.cell_below K0.out x5
  have x7_0 : v0.cell? ⟨x, 7, none⟩ = some (.slice c.A o.cidrs.length c.c) := G.cell_below K0.out x7
  have x12_0 : v0.cell? ⟨x, 12, none⟩ = some (.slice i.A o.ips.length i.c) := G.cell_below K0.out x12
  clear hb0
  go_wp2_with (fail)
  refine (C1.out _ (K0.out)).mono ?_
  rintro e v1 ⟨rfl, hb1⟩
  rw [E1.out]
  have K1 := Lib.hid (show Below w1.heap.size w1 v1 from K0.out.trans (belowLe K0.out.size hb1))
  have x11_1 : v1.cell? ⟨x, 11, none⟩ = some (.slice p.A o.fams.length p.c) := G.cell_below K1.out x11
  have x6_1 : v1.cell? ⟨x, 6, none⟩ = some (.slice l.A o.labels.length l.c) := G.cell_below K1.out x6
  have x5_1 : v1.cell? ⟨x, 5, none⟩ = some (.slice f.A o.fins.length f.c) := G.cell_below K1.out x5
  have x7_1 : v1.cell? ⟨x, 7, none⟩ = some (.slice c.A o.cidrs.length c.c) := G.cell_below K1.out x7
  have x12_1 : v1.cell? ⟨x, 12, none⟩ = some (.slice i.A o.ips.length i.c) := G.cell_below K1.out x12
  clear hb1
  go_wp2_with (fail)
  refine (C2.out _ (K1.out)).mono ?_
  rintro e v2 ⟨rfl, hb2⟩
  rw [E2.out]
  have K2 := Lib.hid (show Below w1.heap.size w1 v2 from K1.out.trans (belowLe K1.out.size hb2))
  have x11_2 : v2.cell? ⟨x, 11, none⟩ = some (.slice p.A o.fams.length p.c) := G.cell_below K2.out x11
  have x6_2 : v2.cell? ⟨x, 6, none⟩ = some (.slice l.A o.labels.length l.c) := G.cell_below K2.out x6
  have x5_2 : v2.cell? ⟨x, 5, none⟩ = some (.slice f.A o.fins.length f.c) := G.cell_below K2.out x5
  have x7_2 : v2.cell? ⟨x, 7, none⟩ = some (.slice c.A o.cidrs.length c.c) := G.cell_below K2.out x7
  have x12_2 : v2.cell? ⟨x, 12, none⟩ = some (.slice i.A o.ips.length i.c) := G.cell_below K2.out x12
  clear hb2
  go_wp2_with (fail)
  refine (C3.out _ (K2.out)).mono ?_
  rintro e v3 ⟨rfl, hb3⟩
  have K3 := Lib.hid (show Below w1.heap.size w1 v3 from K2.out.trans (belowLe K2.out.size hb3))
  clear hb3
  go_wp2
  go_ret
  exact ⟨by rw [HS.out]; rfl, B1.out.trans (belowLe B1.out.size K3.out)⟩
theorem long_any (o : Ob) (f l c p i : Sl) (hz : ObSz o) (w : World) (hr : RowsR w o f l c p i) :
    Calls Try.prog 15 #[.agg (oc o f l c p i)] w fun e w' => e = .returned (.bool (longO o)) ∧ Below w.heap.size w w' := by
  by_cases h0 : (5000 : Int) < lens o
  · exact long_a o f l c p i hz h0 w hr
  by_cases h1 : (40 : Int) < o.fams.length
  · exact long_b o f l c p i hz h0 h1 w hr
  cases h2 : longPairs o.labels
  rotate_left
  · exact long_c o f l c p i hz h0 h1 h2 w hr
  cases h3 : longTexts o.fins
  rotate_left
  · exact long_d o f l c p i hz h0 h1 h2 h3 w hr
  cases h4 : longTexts o.cidrs
  · exact long_f o f l c p i hz h0 h1 h2 h3 h4 w hr
  · exact long_e o f l c p i hz h0 h1 h2 h3 h4 w hr
end Go.Proofs.Ytmbmnldheilffaa
