/- The reference's Shape. -/
import Derived.Test.YtolndeolehkjoaaOn1
import Derived.Test.YtolndeolehkjoaaSh4
import Derived.Test.YtolndeolehkjoaaTk
namespace Go.Proofs.Ytolndeolehkjoaa
set_option linter.unusedVariables false
set_option linter.unusedSimpArgs false
open Go.RowKit CodP
theorem rtextsI_any (L : List ByteArray) (A : Option Addr) (c m : Nat) (mi : Int) (hmi : mi = m) (n : Nat) (hn : L.length = n) (hm : m ≤ 100) (r : Bool) (hres : textsB L m = r) (w : World) (hr : RowR w A (L.flatMap cS)) :
    Calls Try.prog 82 #[.slice A n c, .int .i64 mi] w fun e w' => e = .returned (.bool r) ∧ Below w.heap.size w w' := by
  subst hmi; subst hn
  exact rtexts_any L A c m hm r hres w hr
theorem addr_add0 (b : Addr) : b.add 0 = b := by unfold Addr.add; simp
theorem keepX {w1 V V' : World} {x : Nat} {A : Obj} (hl : x < w1.heap.size) (h : V.heap[x]? = some A ∧ Below w1.heap.size w1 V) (hb : Below V.heap.size V V') : V'.heap[x]? = some A ∧ Below w1.heap.size w1 V' :=
  ⟨(hb.block x (Nat.lt_of_lt_of_le hl h.2.size)).trans h.1, G.bthen h.2 hb⟩
theorem shape_parts (o : Ob) : CodP.shape o = (inR (o.kind - 1) 3 && (only o && (inR o.uid 1099511627776 && (inR o.version 1099511627776 && (inR o.type 255 && (inR o.policy 255 && (inR o.bits 255 && (decide (o.fams.length ≤ 8) && (decide (o.labels.length ≤ 16) && ((o.fams.all fun n => inR n 255) && ((o.labels.all fun p => decide (p.1.size ≤ 200 ∧ p.2.size ≤ 200)) && (textsB o.fins 4 && (textsB o.cidrs 8 && (textsB o.ips 8 && textsB [o.name, o.status, o.v4, o.v6, o.sel, o.about, o.reason] 7)))))))))))))) := by
  have e : textsB [o.name, o.status, o.v4, o.v6, o.sel, o.about, o.reason] 7 = ([o.name, o.status, o.v4, o.v6, o.sel, o.about, o.reason].all fun s => decide (s.size ≤ 200)) := rfl
  rw [e]
  unfold CodP.shape labelsB
  ac_rfl
set_option maxRecDepth 100000 in
set_option maxHeartbeats 4000000 in
theorem rshape_0 (o : Ob) (f l c p i : Sl) (hs : o.fins.length ≤ 1000000 ∧ o.labels.length ≤ 1000000 ∧ o.cidrs.length ≤ 1000000 ∧ o.fams.length ≤ 1000000 ∧ o.ips.length ≤ 1000000) (h0 : decide (o.kind < 1) = true) (w : World) (hr : RowsR w o f l c p i) :
    Calls Try.prog 47 #[.agg (oc o f l c p i)] w fun e w' => e = .returned (.bool (CodP.shape o)) ∧ Below w.heap.size w w' := by
  obtain ⟨w1, hw1, b1, p1⟩ := box_one w (oc o f l c p i) 32
  obtain ⟨x, hx⟩ : ∃ x, x = w.heap.size := ⟨_, rfl⟩
  have lw := Lib.hid (show x < w1.heap.size by rw [hx]; exact (Array.getElem?_eq_some_iff.1 p1).1)
  rw [← hx] at p1
  have ka0 : ∀ V : World, V.heap[x]? = some (.cells (oc o f l c p i) 32 (0, 0)) → V.cell? ⟨x, 0, none⟩ = some (.int .i64 o.kind) := fun V hV => by simp [World.cell?, hV, oc]
  have ka1 : ∀ V : World, V.heap[x]? = some (.cells (oc o f l c p i) 32 (0, 0)) → V.cell? ⟨x, 1, none⟩ = some (.string o.name) := fun V hV => by simp [World.cell?, hV, oc]
  have ka2 : ∀ V : World, V.heap[x]? = some (.cells (oc o f l c p i) 32 (0, 0)) → V.cell? ⟨x, 2, none⟩ = some (.int .i64 o.uid) := fun V hV => by simp [World.cell?, hV, oc]
  have ka3 : ∀ V : World, V.heap[x]? = some (.cells (oc o f l c p i) 32 (0, 0)) → V.cell? ⟨x, 3, none⟩ = some (.int .i64 o.version) := fun V hV => by simp [World.cell?, hV, oc]
  have ka4 : ∀ V : World, V.heap[x]? = some (.cells (oc o f l c p i) 32 (0, 0)) → V.cell? ⟨x, 4, none⟩ = some (.bool o.deleting) := fun V hV => by simp [World.cell?, hV, oc]
  have ka5 : ∀ V : World, V.heap[x]? = some (.cells (oc o f l c p i) 32 (0, 0)) → V.cell? ⟨x, 5, none⟩ = some (.slice f.A o.fins.length f.c) := fun V hV => by simp [World.cell?, hV, oc]
  have ka6 : ∀ V : World, V.heap[x]? = some (.cells (oc o f l c p i) 32 (0, 0)) → V.cell? ⟨x, 6, none⟩ = some (.slice l.A o.labels.length l.c) := fun V hV => by simp [World.cell?, hV, oc]
  have ka7 : ∀ V : World, V.heap[x]? = some (.cells (oc o f l c p i) 32 (0, 0)) → V.cell? ⟨x, 7, none⟩ = some (.slice c.A o.cidrs.length c.c) := fun V hV => by simp [World.cell?, hV, oc]
  have ka8 : ∀ V : World, V.heap[x]? = some (.cells (oc o f l c p i) 32 (0, 0)) → V.cell? ⟨x, 8, none⟩ = some (.string o.status) := fun V hV => by simp [World.cell?, hV, oc]
  have ka9 : ∀ V : World, V.heap[x]? = some (.cells (oc o f l c p i) 32 (0, 0)) → V.cell? ⟨x, 9, none⟩ = some (.int .i64 o.type) := fun V hV => by simp [World.cell?, hV, oc]
  have ka10 : ∀ V : World, V.heap[x]? = some (.cells (oc o f l c p i) 32 (0, 0)) → V.cell? ⟨x, 10, none⟩ = some (.int .i64 o.policy) := fun V hV => by simp [World.cell?, hV, oc]
  have ka11 : ∀ V : World, V.heap[x]? = some (.cells (oc o f l c p i) 32 (0, 0)) → V.cell? ⟨x, 11, none⟩ = some (.slice p.A o.fams.length p.c) := fun V hV => by simp [World.cell?, hV, oc]
  have ka12 : ∀ V : World, V.heap[x]? = some (.cells (oc o f l c p i) 32 (0, 0)) → V.cell? ⟨x, 12, none⟩ = some (.slice i.A o.ips.length i.c) := fun V hV => by simp [World.cell?, hV, oc]
  have ka13 : ∀ V : World, V.heap[x]? = some (.cells (oc o f l c p i) 32 (0, 0)) → V.cell? ⟨x, 13, none⟩ = some (.string o.v4) := fun V hV => by simp [World.cell?, hV, oc]
  have ka14 : ∀ V : World, V.heap[x]? = some (.cells (oc o f l c p i) 32 (0, 0)) → V.cell? ⟨x, 14, none⟩ = some (.string o.v6) := fun V hV => by simp [World.cell?, hV, oc]
  have ka15 : ∀ V : World, V.heap[x]? = some (.cells (oc o f l c p i) 32 (0, 0)) → V.cell? ⟨x, 15, none⟩ = some (.int .i64 o.bits) := fun V hV => by simp [World.cell?, hV, oc]
  have ka16 : ∀ V : World, V.heap[x]? = some (.cells (oc o f l c p i) 32 (0, 0)) → V.cell? ⟨x, 16, none⟩ = some (.string o.sel) := fun V hV => by simp [World.cell?, hV, oc]
  have ka17 : ∀ V : World, V.heap[x]? = some (.cells (oc o f l c p i) 32 (0, 0)) → V.cell? ⟨x, 17, none⟩ = some (.string o.about) := fun V hV => by simp [World.cell?, hV, oc]
  have ka18 : ∀ V : World, V.heap[x]? = some (.cells (oc o f l c p i) 32 (0, 0)) → V.cell? ⟨x, 18, none⟩ = some (.string o.reason) := fun V hV => by simp [World.cell?, hV, oc]
  have R1 := Lib.hid (hr.below b1)
  have HSZ := Lib.hid hs
  have hS : CodP.shape o = false := by
    rw [shape_parts]
    have e : inR (o.kind - 1) 3 = false := decide_eq_false (by have := of_decide_eq_true h0; omega)
    rw [e]; simp only [Bool.false_and, Bool.and_false]
  have HS := Lib.hid hS
  clear hS
  have HW := Lib.hid hw1
  have B1 := Lib.hid b1
  have P1 := Lib.hid p1
  clear b1 p1 hw1 hr hs
  go_enter Try.func47, Try.ntmps47
  go_upto_region 1 with (fail)
  rw [← HW.out, ← hx]
  clear hx
  refine wp_region_held_drew (S := fun V => V.heap[x]? = some (.cells (oc o f l c p i) 32 (0, 0)) ∧ Below w1.heap.size w1 V) (by kernel_rfl) ⟨P1.out, ⟨rfl, rfl, rfl, Nat.le_refl _, fun _ _ => rfl⟩⟩ (fun hS0 => ?_)
  refine tk 0 5 (.pointer (some ⟨x, 0, none⟩)) ?_
  try simp only [s1, s2, s3]
  refine tk 1 6 (.int .i64 o.kind) ?_ (hv := by (intro V hV; have hc := ka0 V hV.1; clear hV; go_simp; try rfl))
  try simp only [s1, s2, s3]
  refine tk 2 7 (.bool true) ?_
  try simp only [s1, s2, s3]
  refine tk 3 8 (.bool true) ?_
  try simp only [s1, s2, s3]
  refine ts 4 9 ?_
  try simp only [s1, s2, s3]
  refine ts 5 10 ?_
  try simp only [s1, s2, s3]
  refine ts 6 11 ?_
  try simp only [s1, s2, s3]
  refine tk 7 12 (.bool true) ?_
  try simp only [s1, s2, s3]
  refine tk 8 13 (.bool true) ?_
  try simp only [s1, s2, s3]
  refine ts 9 14 ?_
  try simp only [s1, s2, s3]
  refine ts 10 15 ?_
  try simp only [s1, s2, s3]
  refine ts 11 16 ?_
  try simp only [s1, s2, s3]
  refine ts 12 17 ?_
  try simp only [s1, s2, s3]
  refine ts 13 18 ?_
  try simp only [s1, s2, s3]
  refine tk 14 19 (.bool true) ?_
  try simp only [s1, s2, s3]
  refine tk 15 20 (.bool true) ?_
  try simp only [s1, s2, s3]
  refine ts 16 21 ?_
  try simp only [s1, s2, s3]
  refine ts 17 22 ?_
  try simp only [s1, s2, s3]
  refine ts 18 23 ?_
  try simp only [s1, s2, s3]
  refine ts 19 24 ?_
  try simp only [s1, s2, s3]
  refine tk 20 25 (.bool true) ?_
  try simp only [s1, s2, s3]
  refine tk 21 26 (.bool true) ?_
  try simp only [s1, s2, s3]
  refine ts 22 27 ?_
  try simp only [s1, s2, s3]
  refine ts 23 28 ?_
  try simp only [s1, s2, s3]
  refine ts 24 29 ?_
  try simp only [s1, s2, s3]
  refine ts 25 30 ?_
  try simp only [s1, s2, s3]
  refine tk 26 31 (.bool true) ?_
  try simp only [s1, s2, s3]
  refine tk 27 32 (.bool true) ?_
  try simp only [s1, s2, s3]
  refine ts 28 33 ?_
  try simp only [s1, s2, s3]
  refine ts 29 34 ?_
  try simp only [s1, s2, s3]
  refine ts 30 35 ?_
  try simp only [s1, s2, s3]
  refine ts 31 36 ?_
  try simp only [s1, s2, s3]
  refine tk 32 37 (.bool true) ?_
  try simp only [s1, s2, s3]
  refine tk 33 38 (.bool true) ?_
  try simp only [s1, s2, s3]
  refine ts 34 39 ?_
  try simp only [s1, s2, s3]
  refine ts 35 40 ?_
  try simp only [s1, s2, s3]
  refine ts 36 41 ?_
  try simp only [s1, s2, s3]
  refine ts 37 42 ?_
  try simp only [s1, s2, s3]
  refine tk 38 43 (.bool true) ?_
  try simp only [s1, s2, s3]
  refine tk 39 44 (.bool true) ?_
  try simp only [s1, s2, s3]
  refine ts 40 45 ?_
  try simp only [s1, s2, s3]
  refine ts 41 46 ?_
  try simp only [s1, s2, s3]
  refine ts 42 47 ?_
  try simp only [s1, s2, s3]
  refine ts 43 48 ?_
  try simp only [s1, s2, s3]
  refine tk 44 49 (.bool true) ?_
  try simp only [s1, s2, s3]
  refine tk 45 50 (.bool true) ?_
  try simp only [s1, s2, s3]
  refine ts 46 51 ?_
  try simp only [s1, s2, s3]
  refine ts 47 52 ?_
  try simp only [s1, s2, s3]
  refine ts 48 53 ?_
  try simp only [s1, s2, s3]
  refine ts 49 54 ?_
  try simp only [s1, s2, s3]
  refine tk 50 55 (.bool true) ?_
  try simp only [s1, s2, s3]
  refine tk 51 56 (.bool true) ?_
  try simp only [s1, s2, s3]
  refine ts 52 57 ?_
  try simp only [s1, s2, s3]
  refine ts 53 58 ?_
  try simp only [s1, s2, s3]
  refine ts 54 59 ?_
  try simp only [s1, s2, s3]
  refine ts 55 60 ?_
  try simp only [s1, s2, s3]
  refine tk 56 61 (.bool true) ?_
  try simp only [s1, s2, s3]
  refine wpAnyH_done (by kernel_rfl) ?_ _
  have HE := Lib.hid hS0
  go_wp2
  go_ret
  exact ⟨by rw [HS.out]; rfl, B1.out.trans (belowLe B1.out.size HE.out.2)⟩
set_option maxRecDepth 100000 in
set_option maxHeartbeats 4000000 in
theorem rshape_1 (o : Ob) (f l c p i : Sl) (hs : o.fins.length ≤ 1000000 ∧ o.labels.length ≤ 1000000 ∧ o.cidrs.length ≤ 1000000 ∧ o.fams.length ≤ 1000000 ∧ o.ips.length ≤ 1000000) (h0 : decide (o.kind < 1) = false) (h1 : decide (4 < o.kind) = true) (w : World) (hr : RowsR w o f l c p i) :
    Calls Try.prog 47 #[.agg (oc o f l c p i)] w fun e w' => e = .returned (.bool (CodP.shape o)) ∧ Below w.heap.size w w' := by
  obtain ⟨w1, hw1, b1, p1⟩ := box_one w (oc o f l c p i) 32
  obtain ⟨x, hx⟩ : ∃ x, x = w.heap.size := ⟨_, rfl⟩
  have lw := Lib.hid (show x < w1.heap.size by rw [hx]; exact (Array.getElem?_eq_some_iff.1 p1).1)
  rw [← hx] at p1
  have ka0 : ∀ V : World, V.heap[x]? = some (.cells (oc o f l c p i) 32 (0, 0)) → V.cell? ⟨x, 0, none⟩ = some (.int .i64 o.kind) := fun V hV => by simp [World.cell?, hV, oc]
  have ka1 : ∀ V : World, V.heap[x]? = some (.cells (oc o f l c p i) 32 (0, 0)) → V.cell? ⟨x, 1, none⟩ = some (.string o.name) := fun V hV => by simp [World.cell?, hV, oc]
  have ka2 : ∀ V : World, V.heap[x]? = some (.cells (oc o f l c p i) 32 (0, 0)) → V.cell? ⟨x, 2, none⟩ = some (.int .i64 o.uid) := fun V hV => by simp [World.cell?, hV, oc]
  have ka3 : ∀ V : World, V.heap[x]? = some (.cells (oc o f l c p i) 32 (0, 0)) → V.cell? ⟨x, 3, none⟩ = some (.int .i64 o.version) := fun V hV => by simp [World.cell?, hV, oc]
  have ka4 : ∀ V : World, V.heap[x]? = some (.cells (oc o f l c p i) 32 (0, 0)) → V.cell? ⟨x, 4, none⟩ = some (.bool o.deleting) := fun V hV => by simp [World.cell?, hV, oc]
  have ka5 : ∀ V : World, V.heap[x]? = some (.cells (oc o f l c p i) 32 (0, 0)) → V.cell? ⟨x, 5, none⟩ = some (.slice f.A o.fins.length f.c) := fun V hV => by simp [World.cell?, hV, oc]
  have ka6 : ∀ V : World, V.heap[x]? = some (.cells (oc o f l c p i) 32 (0, 0)) → V.cell? ⟨x, 6, none⟩ = some (.slice l.A o.labels.length l.c) := fun V hV => by simp [World.cell?, hV, oc]
  have ka7 : ∀ V : World, V.heap[x]? = some (.cells (oc o f l c p i) 32 (0, 0)) → V.cell? ⟨x, 7, none⟩ = some (.slice c.A o.cidrs.length c.c) := fun V hV => by simp [World.cell?, hV, oc]
  have ka8 : ∀ V : World, V.heap[x]? = some (.cells (oc o f l c p i) 32 (0, 0)) → V.cell? ⟨x, 8, none⟩ = some (.string o.status) := fun V hV => by simp [World.cell?, hV, oc]
  have ka9 : ∀ V : World, V.heap[x]? = some (.cells (oc o f l c p i) 32 (0, 0)) → V.cell? ⟨x, 9, none⟩ = some (.int .i64 o.type) := fun V hV => by simp [World.cell?, hV, oc]
  have ka10 : ∀ V : World, V.heap[x]? = some (.cells (oc o f l c p i) 32 (0, 0)) → V.cell? ⟨x, 10, none⟩ = some (.int .i64 o.policy) := fun V hV => by simp [World.cell?, hV, oc]
  have ka11 : ∀ V : World, V.heap[x]? = some (.cells (oc o f l c p i) 32 (0, 0)) → V.cell? ⟨x, 11, none⟩ = some (.slice p.A o.fams.length p.c) := fun V hV => by simp [World.cell?, hV, oc]
  have ka12 : ∀ V : World, V.heap[x]? = some (.cells (oc o f l c p i) 32 (0, 0)) → V.cell? ⟨x, 12, none⟩ = some (.slice i.A o.ips.length i.c) := fun V hV => by simp [World.cell?, hV, oc]
  have ka13 : ∀ V : World, V.heap[x]? = some (.cells (oc o f l c p i) 32 (0, 0)) → V.cell? ⟨x, 13, none⟩ = some (.string o.v4) := fun V hV => by simp [World.cell?, hV, oc]
  have ka14 : ∀ V : World, V.heap[x]? = some (.cells (oc o f l c p i) 32 (0, 0)) → V.cell? ⟨x, 14, none⟩ = some (.string o.v6) := fun V hV => by simp [World.cell?, hV, oc]
  have ka15 : ∀ V : World, V.heap[x]? = some (.cells (oc o f l c p i) 32 (0, 0)) → V.cell? ⟨x, 15, none⟩ = some (.int .i64 o.bits) := fun V hV => by simp [World.cell?, hV, oc]
  have ka16 : ∀ V : World, V.heap[x]? = some (.cells (oc o f l c p i) 32 (0, 0)) → V.cell? ⟨x, 16, none⟩ = some (.string o.sel) := fun V hV => by simp [World.cell?, hV, oc]
  have ka17 : ∀ V : World, V.heap[x]? = some (.cells (oc o f l c p i) 32 (0, 0)) → V.cell? ⟨x, 17, none⟩ = some (.string o.about) := fun V hV => by simp [World.cell?, hV, oc]
  have ka18 : ∀ V : World, V.heap[x]? = some (.cells (oc o f l c p i) 32 (0, 0)) → V.cell? ⟨x, 18, none⟩ = some (.string o.reason) := fun V hV => by simp [World.cell?, hV, oc]
  have R1 := Lib.hid (hr.below b1)
  have HSZ := Lib.hid hs
  have hS : CodP.shape o = false := by
    rw [shape_parts]
    have e : inR (o.kind - 1) 3 = false := decide_eq_false (by have := of_decide_eq_true h1; omega)
    rw [e]; simp only [Bool.false_and, Bool.and_false]
  have HS := Lib.hid hS
  clear hS
  have HW := Lib.hid hw1
  have B1 := Lib.hid b1
  have P1 := Lib.hid p1
  clear b1 p1 hw1 hr hs
  go_enter Try.func47, Try.ntmps47
  go_upto_region 1 with (fail)
  rw [← HW.out, ← hx]
  clear hx
  refine wp_region_held_drew (S := fun V => V.heap[x]? = some (.cells (oc o f l c p i) 32 (0, 0)) ∧ Below w1.heap.size w1 V) (by kernel_rfl) ⟨P1.out, ⟨rfl, rfl, rfl, Nat.le_refl _, fun _ _ => rfl⟩⟩ (fun hS0 => ?_)
  refine tk 0 5 (.pointer (some ⟨x, 0, none⟩)) ?_
  try simp only [s1, s2, s3]
  refine tk 1 6 (.int .i64 o.kind) ?_ (hv := by (intro V hV; have hc := ka0 V hV.1; clear hV; go_simp; try rfl))
  try simp only [s1, s2, s3]
  refine tk 2 7 (.bool false) ?_
  try simp only [s1, s2, s3]
  refine tk 3 8 (.bool false) ?_
  try simp only [s1, s2, s3]
  refine tk 4 9 (.pointer (some ⟨x, 0, none⟩)) ?_
  try simp only [s1, s2, s3]
  refine tk 5 10 (.int .i64 o.kind) ?_ (hv := by (intro V hV; have hc := ka0 V hV.1; clear hV; go_simp; try rfl))
  try simp only [s1, s2, s3]
  refine tk 6 11 (.bool true) ?_
  try simp only [s1, s2, s3]
  refine tk 7 12 (.bool true) ?_
  try simp only [s1, s2, s3]
  refine tk 8 13 (.bool true) ?_
  try simp only [s1, s2, s3]
  refine ts 9 14 ?_
  try simp only [s1, s2, s3]
  refine ts 10 15 ?_
  try simp only [s1, s2, s3]
  refine ts 11 16 ?_
  try simp only [s1, s2, s3]
  refine ts 12 17 ?_
  try simp only [s1, s2, s3]
  refine ts 13 18 ?_
  try simp only [s1, s2, s3]
  refine tk 14 19 (.bool true) ?_
  try simp only [s1, s2, s3]
  refine tk 15 20 (.bool true) ?_
  try simp only [s1, s2, s3]
  refine ts 16 21 ?_
  try simp only [s1, s2, s3]
  refine ts 17 22 ?_
  try simp only [s1, s2, s3]
  refine ts 18 23 ?_
  try simp only [s1, s2, s3]
  refine ts 19 24 ?_
  try simp only [s1, s2, s3]
  refine tk 20 25 (.bool true) ?_
  try simp only [s1, s2, s3]
  refine tk 21 26 (.bool true) ?_
  try simp only [s1, s2, s3]
  refine ts 22 27 ?_
  try simp only [s1, s2, s3]
  refine ts 23 28 ?_
  try simp only [s1, s2, s3]
  refine ts 24 29 ?_
  try simp only [s1, s2, s3]
  refine ts 25 30 ?_
  try simp only [s1, s2, s3]
  refine tk 26 31 (.bool true) ?_
  try simp only [s1, s2, s3]
  refine tk 27 32 (.bool true) ?_
  try simp only [s1, s2, s3]
  refine ts 28 33 ?_
  try simp only [s1, s2, s3]
  refine ts 29 34 ?_
  try simp only [s1, s2, s3]
  refine ts 30 35 ?_
  try simp only [s1, s2, s3]
  refine ts 31 36 ?_
  try simp only [s1, s2, s3]
  refine tk 32 37 (.bool true) ?_
  try simp only [s1, s2, s3]
  refine tk 33 38 (.bool true) ?_
  try simp only [s1, s2, s3]
  refine ts 34 39 ?_
  try simp only [s1, s2, s3]
  refine ts 35 40 ?_
  try simp only [s1, s2, s3]
  refine ts 36 41 ?_
  try simp only [s1, s2, s3]
  refine ts 37 42 ?_
  try simp only [s1, s2, s3]
  refine tk 38 43 (.bool true) ?_
  try simp only [s1, s2, s3]
  refine tk 39 44 (.bool true) ?_
  try simp only [s1, s2, s3]
  refine ts 40 45 ?_
  try simp only [s1, s2, s3]
  refine ts 41 46 ?_
  try simp only [s1, s2, s3]
  refine ts 42 47 ?_
  try simp only [s1, s2, s3]
  refine ts 43 48 ?_
  try simp only [s1, s2, s3]
  refine tk 44 49 (.bool true) ?_
  try simp only [s1, s2, s3]
  refine tk 45 50 (.bool true) ?_
  try simp only [s1, s2, s3]
  refine ts 46 51 ?_
  try simp only [s1, s2, s3]
  refine ts 47 52 ?_
  try simp only [s1, s2, s3]
  refine ts 48 53 ?_
  try simp only [s1, s2, s3]
  refine ts 49 54 ?_
  try simp only [s1, s2, s3]
  refine tk 50 55 (.bool true) ?_
  try simp only [s1, s2, s3]
  refine tk 51 56 (.bool true) ?_
  try simp only [s1, s2, s3]
  refine ts 52 57 ?_
  try simp only [s1, s2, s3]
  refine ts 53 58 ?_
  try simp only [s1, s2, s3]
  refine ts 54 59 ?_
  try simp only [s1, s2, s3]
  refine ts 55 60 ?_
  try simp only [s1, s2, s3]
  refine tk 56 61 (.bool true) ?_
  try simp only [s1, s2, s3]
  refine wpAnyH_done (by kernel_rfl) ?_ _
  have HE := Lib.hid hS0
  go_wp2
  go_ret
  exact ⟨by rw [HS.out]; rfl, B1.out.trans (belowLe B1.out.size HE.out.2)⟩
set_option maxRecDepth 100000 in
set_option maxHeartbeats 4000000 in
theorem rshape_2 (o : Ob) (f l c p i : Sl) (hs : o.fins.length ≤ 1000000 ∧ o.labels.length ≤ 1000000 ∧ o.cidrs.length ≤ 1000000 ∧ o.fams.length ≤ 1000000 ∧ o.ips.length ≤ 1000000) (h0 : decide (o.kind < 1) = false) (h1 : decide (4 < o.kind) = false) (h2 : only o = false) (w : World) (hr : RowsR w o f l c p i) :
    Calls Try.prog 47 #[.agg (oc o f l c p i)] w fun e w' => e = .returned (.bool (CodP.shape o)) ∧ Below w.heap.size w w' := by
  obtain ⟨w1, hw1, b1, p1⟩ := box_one w (oc o f l c p i) 32
  obtain ⟨x, hx⟩ : ∃ x, x = w.heap.size := ⟨_, rfl⟩
  have lw := Lib.hid (show x < w1.heap.size by rw [hx]; exact (Array.getElem?_eq_some_iff.1 p1).1)
  rw [← hx] at p1
  have ka0 : ∀ V : World, V.heap[x]? = some (.cells (oc o f l c p i) 32 (0, 0)) → V.cell? ⟨x, 0, none⟩ = some (.int .i64 o.kind) := fun V hV => by simp [World.cell?, hV, oc]
  have ka1 : ∀ V : World, V.heap[x]? = some (.cells (oc o f l c p i) 32 (0, 0)) → V.cell? ⟨x, 1, none⟩ = some (.string o.name) := fun V hV => by simp [World.cell?, hV, oc]
  have ka2 : ∀ V : World, V.heap[x]? = some (.cells (oc o f l c p i) 32 (0, 0)) → V.cell? ⟨x, 2, none⟩ = some (.int .i64 o.uid) := fun V hV => by simp [World.cell?, hV, oc]
  have ka3 : ∀ V : World, V.heap[x]? = some (.cells (oc o f l c p i) 32 (0, 0)) → V.cell? ⟨x, 3, none⟩ = some (.int .i64 o.version) := fun V hV => by simp [World.cell?, hV, oc]
  have ka4 : ∀ V : World, V.heap[x]? = some (.cells (oc o f l c p i) 32 (0, 0)) → V.cell? ⟨x, 4, none⟩ = some (.bool o.deleting) := fun V hV => by simp [World.cell?, hV, oc]
  have ka5 : ∀ V : World, V.heap[x]? = some (.cells (oc o f l c p i) 32 (0, 0)) → V.cell? ⟨x, 5, none⟩ = some (.slice f.A o.fins.length f.c) := fun V hV => by simp [World.cell?, hV, oc]
  have ka6 : ∀ V : World, V.heap[x]? = some (.cells (oc o f l c p i) 32 (0, 0)) → V.cell? ⟨x, 6, none⟩ = some (.slice l.A o.labels.length l.c) := fun V hV => by simp [World.cell?, hV, oc]
  have ka7 : ∀ V : World, V.heap[x]? = some (.cells (oc o f l c p i) 32 (0, 0)) → V.cell? ⟨x, 7, none⟩ = some (.slice c.A o.cidrs.length c.c) := fun V hV => by simp [World.cell?, hV, oc]
  have ka8 : ∀ V : World, V.heap[x]? = some (.cells (oc o f l c p i) 32 (0, 0)) → V.cell? ⟨x, 8, none⟩ = some (.string o.status) := fun V hV => by simp [World.cell?, hV, oc]
  have ka9 : ∀ V : World, V.heap[x]? = some (.cells (oc o f l c p i) 32 (0, 0)) → V.cell? ⟨x, 9, none⟩ = some (.int .i64 o.type) := fun V hV => by simp [World.cell?, hV, oc]
  have ka10 : ∀ V : World, V.heap[x]? = some (.cells (oc o f l c p i) 32 (0, 0)) → V.cell? ⟨x, 10, none⟩ = some (.int .i64 o.policy) := fun V hV => by simp [World.cell?, hV, oc]
  have ka11 : ∀ V : World, V.heap[x]? = some (.cells (oc o f l c p i) 32 (0, 0)) → V.cell? ⟨x, 11, none⟩ = some (.slice p.A o.fams.length p.c) := fun V hV => by simp [World.cell?, hV, oc]
  have ka12 : ∀ V : World, V.heap[x]? = some (.cells (oc o f l c p i) 32 (0, 0)) → V.cell? ⟨x, 12, none⟩ = some (.slice i.A o.ips.length i.c) := fun V hV => by simp [World.cell?, hV, oc]
  have ka13 : ∀ V : World, V.heap[x]? = some (.cells (oc o f l c p i) 32 (0, 0)) → V.cell? ⟨x, 13, none⟩ = some (.string o.v4) := fun V hV => by simp [World.cell?, hV, oc]
  have ka14 : ∀ V : World, V.heap[x]? = some (.cells (oc o f l c p i) 32 (0, 0)) → V.cell? ⟨x, 14, none⟩ = some (.string o.v6) := fun V hV => by simp [World.cell?, hV, oc]
  have ka15 : ∀ V : World, V.heap[x]? = some (.cells (oc o f l c p i) 32 (0, 0)) → V.cell? ⟨x, 15, none⟩ = some (.int .i64 o.bits) := fun V hV => by simp [World.cell?, hV, oc]
  have ka16 : ∀ V : World, V.heap[x]? = some (.cells (oc o f l c p i) 32 (0, 0)) → V.cell? ⟨x, 16, none⟩ = some (.string o.sel) := fun V hV => by simp [World.cell?, hV, oc]
  have ka17 : ∀ V : World, V.heap[x]? = some (.cells (oc o f l c p i) 32 (0, 0)) → V.cell? ⟨x, 17, none⟩ = some (.string o.about) := fun V hV => by simp [World.cell?, hV, oc]
  have ka18 : ∀ V : World, V.heap[x]? = some (.cells (oc o f l c p i) 32 (0, 0)) → V.cell? ⟨x, 18, none⟩ = some (.string o.reason) := fun V hV => by simp [World.cell?, hV, oc]
  have R1 := Lib.hid (hr.below b1)
  have HSZ := Lib.hid hs
  have HK := Lib.hid (show 1 ≤ o.kind ∧ o.kind ≤ 4 from ⟨by have := of_decide_eq_false h0; omega, by have := of_decide_eq_false h1; omega⟩)
  have hS : CodP.shape o = false := by
    rw [shape_parts]
    have e := h2
    rw [e]; simp only [Bool.false_and, Bool.and_false]
  have HS := Lib.hid hS
  clear hS
  have H2 := Lib.hid h2
  clear h2
  have HW := Lib.hid hw1
  have B1 := Lib.hid b1
  have P1 := Lib.hid p1
  clear b1 p1 hw1 hr hs
  go_enter Try.func47, Try.ntmps47
  go_upto_region 1 with (fail)
  rw [← HW.out, ← hx]
  clear hx
  refine wp_region_held_drew (S := fun V => V.heap[x]? = some (.cells (oc o f l c p i) 32 (0, 0)) ∧ Below w1.heap.size w1 V) (by kernel_rfl) ⟨P1.out, ⟨rfl, rfl, rfl, Nat.le_refl _, fun _ _ => rfl⟩⟩ (fun hS0 => ?_)
  refine tk 0 5 (.pointer (some ⟨x, 0, none⟩)) ?_
  try simp only [s1, s2, s3]
  refine tk 1 6 (.int .i64 o.kind) ?_ (hv := by (intro V hV; have hc := ka0 V hV.1; clear hV; go_simp; try rfl))
  try simp only [s1, s2, s3]
  refine tk 2 7 (.bool false) ?_
  try simp only [s1, s2, s3]
  refine tk 3 8 (.bool false) ?_
  try simp only [s1, s2, s3]
  refine tk 4 9 (.pointer (some ⟨x, 0, none⟩)) ?_
  try simp only [s1, s2, s3]
  refine tk 5 10 (.int .i64 o.kind) ?_ (hv := by (intro V hV; have hc := ka0 V hV.1; clear hV; go_simp; try rfl))
  try simp only [s1, s2, s3]
  refine tk 6 11 (.bool false) ?_
  try simp only [s1, s2, s3]
  refine tk 7 12 (.bool false) ?_
  try simp only [s1, s2, s3]
  refine tk 8 13 (.bool false) ?_
  try simp only [s1, s2, s3]
  refine tk 9 14 (.agg (oc o f l c p i)) ?_ (hv := by exact load_row_yields 32 (.tmp 1) rfl x rfl 32 (oc o f l c p i) (0, 0) _ (fun V hV => hV.1) Try.underlying32 rfl size32)
  try simp only [s1, s2, s3]
  refine tk 10 15 (.agg (oc o f l c p i)) ?_ (hv := by exact load_row_yields 32 (.tmp 1) rfl x rfl 32 (oc o f l c p i) (0, 0) _ (fun V hV => hV.1) Try.underlying32 rfl size32)
  try simp only [s1, s2, s3]
  refine wpAnyH_ready (rs := [11]) (by kernel_rfl) (by simp) ?_
  refine AllReadyH.cons rfl (fun K hK => ?_) ?_
  · rw [if_pos (by rfl)]
    go_simp
    go_at_call 81
    refine (only_any o f l c p i HK.out _ (R1.out.below (And.right ‹_ ∧ _›))).mono ?_
    rintro e wO ⟨f', l', c', p', i', rfl, hro, hbO⟩
    dsimp only
    refine hK.out _ _ (keepX lw.out (by assumption) hbO) (fun hHeld => ?_)
    clear hK K
    try simp only [Act.put, s1, s2, s3]
    refine wpAnyH_ready (rs := [12]) (by kernel_rfl) (by simp) ?_
    refine AllReadyH.cons rfl (fun K hK => ?_) ?_
    · rw [if_pos (by rfl)]
      go_simp
      go_at_call 18
      refine (same14_any o (onlyO o) f l c p i f' l' c' p' i' HSZ.out wO (R1.out.below hHeld.2) hro).mono ?_
      rw [only_same o HK.out, H2.out]
      rintro e wS ⟨rfl, hbS⟩
      dsimp only
      refine hK.out _ _ (keepX lw.out (by assumption) hbS) (fun hHeld => ?_)
      clear hK K
      try simp only [Act.put, s1, s2, s3]
      refine tk 13 18 (.bool true) ?_
      try simp only [s1, s2, s3]
      refine tk 14 19 (.bool true) ?_
      try simp only [s1, s2, s3]
      refine tk 15 20 (.bool true) ?_
      try simp only [s1, s2, s3]
      refine ts 16 21 ?_
      try simp only [s1, s2, s3]
      refine ts 17 22 ?_
      try simp only [s1, s2, s3]
      refine ts 18 23 ?_
      try simp only [s1, s2, s3]
      refine ts 19 24 ?_
      try simp only [s1, s2, s3]
      refine tk 20 25 (.bool true) ?_
      try simp only [s1, s2, s3]
      refine tk 21 26 (.bool true) ?_
      try simp only [s1, s2, s3]
      refine ts 22 27 ?_
      try simp only [s1, s2, s3]
      refine ts 23 28 ?_
      try simp only [s1, s2, s3]
      refine ts 24 29 ?_
      try simp only [s1, s2, s3]
      refine ts 25 30 ?_
      try simp only [s1, s2, s3]
      refine tk 26 31 (.bool true) ?_
      try simp only [s1, s2, s3]
      refine tk 27 32 (.bool true) ?_
      try simp only [s1, s2, s3]
      refine ts 28 33 ?_
      try simp only [s1, s2, s3]
      refine ts 29 34 ?_
      try simp only [s1, s2, s3]
      refine ts 30 35 ?_
      try simp only [s1, s2, s3]
      refine ts 31 36 ?_
      try simp only [s1, s2, s3]
      refine tk 32 37 (.bool true) ?_
      try simp only [s1, s2, s3]
      refine tk 33 38 (.bool true) ?_
      try simp only [s1, s2, s3]
      refine ts 34 39 ?_
      try simp only [s1, s2, s3]
      refine ts 35 40 ?_
      try simp only [s1, s2, s3]
      refine ts 36 41 ?_
      try simp only [s1, s2, s3]
      refine ts 37 42 ?_
      try simp only [s1, s2, s3]
      refine tk 38 43 (.bool true) ?_
      try simp only [s1, s2, s3]
      refine tk 39 44 (.bool true) ?_
      try simp only [s1, s2, s3]
      refine ts 40 45 ?_
      try simp only [s1, s2, s3]
      refine ts 41 46 ?_
      try simp only [s1, s2, s3]
      refine ts 42 47 ?_
      try simp only [s1, s2, s3]
      refine ts 43 48 ?_
      try simp only [s1, s2, s3]
      refine tk 44 49 (.bool true) ?_
      try simp only [s1, s2, s3]
      refine tk 45 50 (.bool true) ?_
      try simp only [s1, s2, s3]
      refine ts 46 51 ?_
      try simp only [s1, s2, s3]
      refine ts 47 52 ?_
      try simp only [s1, s2, s3]
      refine ts 48 53 ?_
      try simp only [s1, s2, s3]
      refine ts 49 54 ?_
      try simp only [s1, s2, s3]
      refine tk 50 55 (.bool true) ?_
      try simp only [s1, s2, s3]
      refine tk 51 56 (.bool true) ?_
      try simp only [s1, s2, s3]
      refine ts 52 57 ?_
      try simp only [s1, s2, s3]
      refine ts 53 58 ?_
      try simp only [s1, s2, s3]
      refine ts 54 59 ?_
      try simp only [s1, s2, s3]
      refine ts 55 60 ?_
      try simp only [s1, s2, s3]
      refine tk 56 61 (.bool true) ?_
      try simp only [s1, s2, s3]
      refine wpAnyH_done (by kernel_rfl) ?_ _
      have HE := Lib.hid hHeld
      go_wp2
      go_ret
      exact ⟨by rw [HS.out]; rfl, B1.out.trans (belowLe B1.out.size HE.out.2)⟩
    exact AllReadyH.nil
  exact AllReadyH.nil
set_option maxRecDepth 100000 in
set_option maxHeartbeats 4000000 in
theorem rshape_3 (o : Ob) (f l c p i : Sl) (hs : o.fins.length ≤ 1000000 ∧ o.labels.length ≤ 1000000 ∧ o.cidrs.length ≤ 1000000 ∧ o.fams.length ≤ 1000000 ∧ o.ips.length ≤ 1000000) (h0 : decide (o.kind < 1) = false) (h1 : decide (4 < o.kind) = false) (h2 : only o = true) (h3 : inR o.uid 1099511627776 = false) (w : World) (hr : RowsR w o f l c p i) :
    Calls Try.prog 47 #[.agg (oc o f l c p i)] w fun e w' => e = .returned (.bool (CodP.shape o)) ∧ Below w.heap.size w w' := by
  obtain ⟨w1, hw1, b1, p1⟩ := box_one w (oc o f l c p i) 32
  obtain ⟨x, hx⟩ : ∃ x, x = w.heap.size := ⟨_, rfl⟩
  have lw := Lib.hid (show x < w1.heap.size by rw [hx]; exact (Array.getElem?_eq_some_iff.1 p1).1)
  rw [← hx] at p1
  have ka0 : ∀ V : World, V.heap[x]? = some (.cells (oc o f l c p i) 32 (0, 0)) → V.cell? ⟨x, 0, none⟩ = some (.int .i64 o.kind) := fun V hV => by simp [World.cell?, hV, oc]
  have ka1 : ∀ V : World, V.heap[x]? = some (.cells (oc o f l c p i) 32 (0, 0)) → V.cell? ⟨x, 1, none⟩ = some (.string o.name) := fun V hV => by simp [World.cell?, hV, oc]
  have ka2 : ∀ V : World, V.heap[x]? = some (.cells (oc o f l c p i) 32 (0, 0)) → V.cell? ⟨x, 2, none⟩ = some (.int .i64 o.uid) := fun V hV => by simp [World.cell?, hV, oc]
  have ka3 : ∀ V : World, V.heap[x]? = some (.cells (oc o f l c p i) 32 (0, 0)) → V.cell? ⟨x, 3, none⟩ = some (.int .i64 o.version) := fun V hV => by simp [World.cell?, hV, oc]
  have ka4 : ∀ V : World, V.heap[x]? = some (.cells (oc o f l c p i) 32 (0, 0)) → V.cell? ⟨x, 4, none⟩ = some (.bool o.deleting) := fun V hV => by simp [World.cell?, hV, oc]
  have ka5 : ∀ V : World, V.heap[x]? = some (.cells (oc o f l c p i) 32 (0, 0)) → V.cell? ⟨x, 5, none⟩ = some (.slice f.A o.fins.length f.c) := fun V hV => by simp [World.cell?, hV, oc]
  have ka6 : ∀ V : World, V.heap[x]? = some (.cells (oc o f l c p i) 32 (0, 0)) → V.cell? ⟨x, 6, none⟩ = some (.slice l.A o.labels.length l.c) := fun V hV => by simp [World.cell?, hV, oc]
  have ka7 : ∀ V : World, V.heap[x]? = some (.cells (oc o f l c p i) 32 (0, 0)) → V.cell? ⟨x, 7, none⟩ = some (.slice c.A o.cidrs.length c.c) := fun V hV => by simp [World.cell?, hV, oc]
  have ka8 : ∀ V : World, V.heap[x]? = some (.cells (oc o f l c p i) 32 (0, 0)) → V.cell? ⟨x, 8, none⟩ = some (.string o.status) := fun V hV => by simp [World.cell?, hV, oc]
  have ka9 : ∀ V : World, V.heap[x]? = some (.cells (oc o f l c p i) 32 (0, 0)) → V.cell? ⟨x, 9, none⟩ = some (.int .i64 o.type) := fun V hV => by simp [World.cell?, hV, oc]
  have ka10 : ∀ V : World, V.heap[x]? = some (.cells (oc o f l c p i) 32 (0, 0)) → V.cell? ⟨x, 10, none⟩ = some (.int .i64 o.policy) := fun V hV => by simp [World.cell?, hV, oc]
  have ka11 : ∀ V : World, V.heap[x]? = some (.cells (oc o f l c p i) 32 (0, 0)) → V.cell? ⟨x, 11, none⟩ = some (.slice p.A o.fams.length p.c) := fun V hV => by simp [World.cell?, hV, oc]
  have ka12 : ∀ V : World, V.heap[x]? = some (.cells (oc o f l c p i) 32 (0, 0)) → V.cell? ⟨x, 12, none⟩ = some (.slice i.A o.ips.length i.c) := fun V hV => by simp [World.cell?, hV, oc]
  have ka13 : ∀ V : World, V.heap[x]? = some (.cells (oc o f l c p i) 32 (0, 0)) → V.cell? ⟨x, 13, none⟩ = some (.string o.v4) := fun V hV => by simp [World.cell?, hV, oc]
  have ka14 : ∀ V : World, V.heap[x]? = some (.cells (oc o f l c p i) 32 (0, 0)) → V.cell? ⟨x, 14, none⟩ = some (.string o.v6) := fun V hV => by simp [World.cell?, hV, oc]
  have ka15 : ∀ V : World, V.heap[x]? = some (.cells (oc o f l c p i) 32 (0, 0)) → V.cell? ⟨x, 15, none⟩ = some (.int .i64 o.bits) := fun V hV => by simp [World.cell?, hV, oc]
  have ka16 : ∀ V : World, V.heap[x]? = some (.cells (oc o f l c p i) 32 (0, 0)) → V.cell? ⟨x, 16, none⟩ = some (.string o.sel) := fun V hV => by simp [World.cell?, hV, oc]
  have ka17 : ∀ V : World, V.heap[x]? = some (.cells (oc o f l c p i) 32 (0, 0)) → V.cell? ⟨x, 17, none⟩ = some (.string o.about) := fun V hV => by simp [World.cell?, hV, oc]
  have ka18 : ∀ V : World, V.heap[x]? = some (.cells (oc o f l c p i) 32 (0, 0)) → V.cell? ⟨x, 18, none⟩ = some (.string o.reason) := fun V hV => by simp [World.cell?, hV, oc]
  have R1 := Lib.hid (hr.below b1)
  have HSZ := Lib.hid hs
  have HK := Lib.hid (show 1 ≤ o.kind ∧ o.kind ≤ 4 from ⟨by have := of_decide_eq_false h0; omega, by have := of_decide_eq_false h1; omega⟩)
  have hS : CodP.shape o = false := by
    rw [shape_parts]
    have e := h3
    rw [e]; simp only [Bool.false_and, Bool.and_false]
  have HS := Lib.hid hS
  clear hS
  have H2 := Lib.hid h2
  clear h2
  have H3 := Lib.hid h3
  clear h3
  have HW := Lib.hid hw1
  have B1 := Lib.hid b1
  have P1 := Lib.hid p1
  clear b1 p1 hw1 hr hs
  go_enter Try.func47, Try.ntmps47
  go_upto_region 1 with (fail)
  rw [← HW.out, ← hx]
  clear hx
  refine wp_region_held_drew (S := fun V => V.heap[x]? = some (.cells (oc o f l c p i) 32 (0, 0)) ∧ Below w1.heap.size w1 V) (by kernel_rfl) ⟨P1.out, ⟨rfl, rfl, rfl, Nat.le_refl _, fun _ _ => rfl⟩⟩ (fun hS0 => ?_)
  refine tk 0 5 (.pointer (some ⟨x, 0, none⟩)) ?_
  try simp only [s1, s2, s3]
  refine tk 1 6 (.int .i64 o.kind) ?_ (hv := by (intro V hV; have hc := ka0 V hV.1; clear hV; go_simp; try rfl))
  try simp only [s1, s2, s3]
  refine tk 2 7 (.bool false) ?_
  try simp only [s1, s2, s3]
  refine tk 3 8 (.bool false) ?_
  try simp only [s1, s2, s3]
  refine tk 4 9 (.pointer (some ⟨x, 0, none⟩)) ?_
  try simp only [s1, s2, s3]
  refine tk 5 10 (.int .i64 o.kind) ?_ (hv := by (intro V hV; have hc := ka0 V hV.1; clear hV; go_simp; try rfl))
  try simp only [s1, s2, s3]
  refine tk 6 11 (.bool false) ?_
  try simp only [s1, s2, s3]
  refine tk 7 12 (.bool false) ?_
  try simp only [s1, s2, s3]
  refine tk 8 13 (.bool false) ?_
  try simp only [s1, s2, s3]
  refine tk 9 14 (.agg (oc o f l c p i)) ?_ (hv := by exact load_row_yields 32 (.tmp 1) rfl x rfl 32 (oc o f l c p i) (0, 0) _ (fun V hV => hV.1) Try.underlying32 rfl size32)
  try simp only [s1, s2, s3]
  refine tk 10 15 (.agg (oc o f l c p i)) ?_ (hv := by exact load_row_yields 32 (.tmp 1) rfl x rfl 32 (oc o f l c p i) (0, 0) _ (fun V hV => hV.1) Try.underlying32 rfl size32)
  try simp only [s1, s2, s3]
  refine wpAnyH_ready (rs := [11]) (by kernel_rfl) (by simp) ?_
  refine AllReadyH.cons rfl (fun K hK => ?_) ?_
  · rw [if_pos (by rfl)]
    go_simp
    go_at_call 81
    refine (only_any o f l c p i HK.out _ (R1.out.below (And.right ‹_ ∧ _›))).mono ?_
    rintro e wO ⟨f', l', c', p', i', rfl, hro, hbO⟩
    dsimp only
    refine hK.out _ _ (keepX lw.out (by assumption) hbO) (fun hHeld => ?_)
    clear hK K
    try simp only [Act.put, s1, s2, s3]
    refine wpAnyH_ready (rs := [12]) (by kernel_rfl) (by simp) ?_
    refine AllReadyH.cons rfl (fun K hK => ?_) ?_
    · rw [if_pos (by rfl)]
      go_simp
      go_at_call 18
      refine (same14_any o (onlyO o) f l c p i f' l' c' p' i' HSZ.out wO (R1.out.below hHeld.2) hro).mono ?_
      rw [only_same o HK.out, H2.out]
      rintro e wS ⟨rfl, hbS⟩
      dsimp only
      refine hK.out _ _ (keepX lw.out (by assumption) hbS) (fun hHeld => ?_)
      clear hK K
      try simp only [Act.put, s1, s2, s3]
      refine tk 13 18 (.bool false) ?_
      try simp only [s1, s2, s3]
      refine tk 14 19 (.bool false) ?_
      try simp only [s1, s2, s3]
      refine tk 15 20 (.bool false) ?_
      try simp only [s1, s2, s3]
      refine tk 16 21 (.pointer (some ⟨x, 2, none⟩)) ?_
      try simp only [s1, s2, s3]
      refine tk 17 22 (.int .i64 o.uid) ?_ (hv := by (intro V hV; have hc := ka2 V hV.1; clear hV; go_simp; try rfl))
      try simp only [s1, s2, s3]
      refine wpAnyH_ready (rs := [18]) (by kernel_rfl) (by simp) ?_
      refine AllReadyH.cons rfl (fun K hK => ?_) ?_
      · rw [if_pos (by rfl)]
        go_simp
        go_at_call 57
        refine (in_any o.uid 1099511627776 false H3.out _).mono ?_
        rintro e v3 ⟨rfl, hv3⟩
        have hw3 := hv3.symm
        clear hv3
        subst hw3
        dsimp only
        refine hK.out _ _ (by assumption) (fun hHeld => ?_)
        clear hK K
        try simp only [Act.put, s1, s2, s3]
        refine tk 19 24 (.bool true) ?_
        try simp only [s1, s2, s3]
        refine tk 20 25 (.bool true) ?_
        try simp only [s1, s2, s3]
        refine tk 21 26 (.bool true) ?_
        try simp only [s1, s2, s3]
        refine ts 22 27 ?_
        try simp only [s1, s2, s3]
        refine ts 23 28 ?_
        try simp only [s1, s2, s3]
        refine ts 24 29 ?_
        try simp only [s1, s2, s3]
        refine ts 25 30 ?_
        try simp only [s1, s2, s3]
        refine tk 26 31 (.bool true) ?_
        try simp only [s1, s2, s3]
        refine tk 27 32 (.bool true) ?_
        try simp only [s1, s2, s3]
        refine ts 28 33 ?_
        try simp only [s1, s2, s3]
        refine ts 29 34 ?_
        try simp only [s1, s2, s3]
        refine ts 30 35 ?_
        try simp only [s1, s2, s3]
        refine ts 31 36 ?_
        try simp only [s1, s2, s3]
        refine tk 32 37 (.bool true) ?_
        try simp only [s1, s2, s3]
        refine tk 33 38 (.bool true) ?_
        try simp only [s1, s2, s3]
        refine ts 34 39 ?_
        try simp only [s1, s2, s3]
        refine ts 35 40 ?_
        try simp only [s1, s2, s3]
        refine ts 36 41 ?_
        try simp only [s1, s2, s3]
        refine ts 37 42 ?_
        try simp only [s1, s2, s3]
        refine tk 38 43 (.bool true) ?_
        try simp only [s1, s2, s3]
        refine tk 39 44 (.bool true) ?_
        try simp only [s1, s2, s3]
        refine ts 40 45 ?_
        try simp only [s1, s2, s3]
        refine ts 41 46 ?_
        try simp only [s1, s2, s3]
        refine ts 42 47 ?_
        try simp only [s1, s2, s3]
        refine ts 43 48 ?_
        try simp only [s1, s2, s3]
        refine tk 44 49 (.bool true) ?_
        try simp only [s1, s2, s3]
        refine tk 45 50 (.bool true) ?_
        try simp only [s1, s2, s3]
        refine ts 46 51 ?_
        try simp only [s1, s2, s3]
        refine ts 47 52 ?_
        try simp only [s1, s2, s3]
        refine ts 48 53 ?_
        try simp only [s1, s2, s3]
        refine ts 49 54 ?_
        try simp only [s1, s2, s3]
        refine tk 50 55 (.bool true) ?_
        try simp only [s1, s2, s3]
        refine tk 51 56 (.bool true) ?_
        try simp only [s1, s2, s3]
        refine ts 52 57 ?_
        try simp only [s1, s2, s3]
        refine ts 53 58 ?_
        try simp only [s1, s2, s3]
        refine ts 54 59 ?_
        try simp only [s1, s2, s3]
        refine ts 55 60 ?_
        try simp only [s1, s2, s3]
        refine tk 56 61 (.bool true) ?_
        try simp only [s1, s2, s3]
        refine wpAnyH_done (by kernel_rfl) ?_ _
        have HE := Lib.hid hHeld
        go_wp2
        go_ret
        exact ⟨by rw [HS.out]; rfl, B1.out.trans (belowLe B1.out.size HE.out.2)⟩
      exact AllReadyH.nil
    exact AllReadyH.nil
  exact AllReadyH.nil
set_option maxRecDepth 100000 in
set_option maxHeartbeats 4000000 in
theorem rshape_4 (o : Ob) (f l c p i : Sl) (hs : o.fins.length ≤ 1000000 ∧ o.labels.length ≤ 1000000 ∧ o.cidrs.length ≤ 1000000 ∧ o.fams.length ≤ 1000000 ∧ o.ips.length ≤ 1000000) (h0 : decide (o.kind < 1) = false) (h1 : decide (4 < o.kind) = false) (h2 : only o = true) (h3 : inR o.uid 1099511627776 = true) (h4 : inR o.version 1099511627776 = false) (w : World) (hr : RowsR w o f l c p i) :
    Calls Try.prog 47 #[.agg (oc o f l c p i)] w fun e w' => e = .returned (.bool (CodP.shape o)) ∧ Below w.heap.size w w' := by
  obtain ⟨w1, hw1, b1, p1⟩ := box_one w (oc o f l c p i) 32
  obtain ⟨x, hx⟩ : ∃ x, x = w.heap.size := ⟨_, rfl⟩
  have lw := Lib.hid (show x < w1.heap.size by rw [hx]; exact (Array.getElem?_eq_some_iff.1 p1).1)
  rw [← hx] at p1
  have ka0 : ∀ V : World, V.heap[x]? = some (.cells (oc o f l c p i) 32 (0, 0)) → V.cell? ⟨x, 0, none⟩ = some (.int .i64 o.kind) := fun V hV => by simp [World.cell?, hV, oc]
  have ka1 : ∀ V : World, V.heap[x]? = some (.cells (oc o f l c p i) 32 (0, 0)) → V.cell? ⟨x, 1, none⟩ = some (.string o.name) := fun V hV => by simp [World.cell?, hV, oc]
  have ka2 : ∀ V : World, V.heap[x]? = some (.cells (oc o f l c p i) 32 (0, 0)) → V.cell? ⟨x, 2, none⟩ = some (.int .i64 o.uid) := fun V hV => by simp [World.cell?, hV, oc]
  have ka3 : ∀ V : World, V.heap[x]? = some (.cells (oc o f l c p i) 32 (0, 0)) → V.cell? ⟨x, 3, none⟩ = some (.int .i64 o.version) := fun V hV => by simp [World.cell?, hV, oc]
  have ka4 : ∀ V : World, V.heap[x]? = some (.cells (oc o f l c p i) 32 (0, 0)) → V.cell? ⟨x, 4, none⟩ = some (.bool o.deleting) := fun V hV => by simp [World.cell?, hV, oc]
  have ka5 : ∀ V : World, V.heap[x]? = some (.cells (oc o f l c p i) 32 (0, 0)) → V.cell? ⟨x, 5, none⟩ = some (.slice f.A o.fins.length f.c) := fun V hV => by simp [World.cell?, hV, oc]
  have ka6 : ∀ V : World, V.heap[x]? = some (.cells (oc o f l c p i) 32 (0, 0)) → V.cell? ⟨x, 6, none⟩ = some (.slice l.A o.labels.length l.c) := fun V hV => by simp [World.cell?, hV, oc]
  have ka7 : ∀ V : World, V.heap[x]? = some (.cells (oc o f l c p i) 32 (0, 0)) → V.cell? ⟨x, 7, none⟩ = some (.slice c.A o.cidrs.length c.c) := fun V hV => by simp [World.cell?, hV, oc]
  have ka8 : ∀ V : World, V.heap[x]? = some (.cells (oc o f l c p i) 32 (0, 0)) → V.cell? ⟨x, 8, none⟩ = some (.string o.status) := fun V hV => by simp [World.cell?, hV, oc]
  have ka9 : ∀ V : World, V.heap[x]? = some (.cells (oc o f l c p i) 32 (0, 0)) → V.cell? ⟨x, 9, none⟩ = some (.int .i64 o.type) := fun V hV => by simp [World.cell?, hV, oc]
  have ka10 : ∀ V : World, V.heap[x]? = some (.cells (oc o f l c p i) 32 (0, 0)) → V.cell? ⟨x, 10, none⟩ = some (.int .i64 o.policy) := fun V hV => by simp [World.cell?, hV, oc]
  have ka11 : ∀ V : World, V.heap[x]? = some (.cells (oc o f l c p i) 32 (0, 0)) → V.cell? ⟨x, 11, none⟩ = some (.slice p.A o.fams.length p.c) := fun V hV => by simp [World.cell?, hV, oc]
  have ka12 : ∀ V : World, V.heap[x]? = some (.cells (oc o f l c p i) 32 (0, 0)) → V.cell? ⟨x, 12, none⟩ = some (.slice i.A o.ips.length i.c) := fun V hV => by simp [World.cell?, hV, oc]
  have ka13 : ∀ V : World, V.heap[x]? = some (.cells (oc o f l c p i) 32 (0, 0)) → V.cell? ⟨x, 13, none⟩ = some (.string o.v4) := fun V hV => by simp [World.cell?, hV, oc]
  have ka14 : ∀ V : World, V.heap[x]? = some (.cells (oc o f l c p i) 32 (0, 0)) → V.cell? ⟨x, 14, none⟩ = some (.string o.v6) := fun V hV => by simp [World.cell?, hV, oc]
  have ka15 : ∀ V : World, V.heap[x]? = some (.cells (oc o f l c p i) 32 (0, 0)) → V.cell? ⟨x, 15, none⟩ = some (.int .i64 o.bits) := fun V hV => by simp [World.cell?, hV, oc]
  have ka16 : ∀ V : World, V.heap[x]? = some (.cells (oc o f l c p i) 32 (0, 0)) → V.cell? ⟨x, 16, none⟩ = some (.string o.sel) := fun V hV => by simp [World.cell?, hV, oc]
  have ka17 : ∀ V : World, V.heap[x]? = some (.cells (oc o f l c p i) 32 (0, 0)) → V.cell? ⟨x, 17, none⟩ = some (.string o.about) := fun V hV => by simp [World.cell?, hV, oc]
  have ka18 : ∀ V : World, V.heap[x]? = some (.cells (oc o f l c p i) 32 (0, 0)) → V.cell? ⟨x, 18, none⟩ = some (.string o.reason) := fun V hV => by simp [World.cell?, hV, oc]
  have R1 := Lib.hid (hr.below b1)
  have HSZ := Lib.hid hs
  have HK := Lib.hid (show 1 ≤ o.kind ∧ o.kind ≤ 4 from ⟨by have := of_decide_eq_false h0; omega, by have := of_decide_eq_false h1; omega⟩)
  have hS : CodP.shape o = false := by
    rw [shape_parts]
    have e := h4
    rw [e]; simp only [Bool.false_and, Bool.and_false]
  have HS := Lib.hid hS
  clear hS
  have H2 := Lib.hid h2
  clear h2
  have H3 := Lib.hid h3
  clear h3
  have H4 := Lib.hid h4
  clear h4
  have HW := Lib.hid hw1
  have B1 := Lib.hid b1
  have P1 := Lib.hid p1
  clear b1 p1 hw1 hr hs
  go_enter Try.func47, Try.ntmps47
  go_upto_region 1 with (fail)
  rw [← HW.out, ← hx]
  clear hx
  refine wp_region_held_drew (S := fun V => V.heap[x]? = some (.cells (oc o f l c p i) 32 (0, 0)) ∧ Below w1.heap.size w1 V) (by kernel_rfl) ⟨P1.out, ⟨rfl, rfl, rfl, Nat.le_refl _, fun _ _ => rfl⟩⟩ (fun hS0 => ?_)
  refine tk 0 5 (.pointer (some ⟨x, 0, none⟩)) ?_
  try simp only [s1, s2, s3]
  refine tk 1 6 (.int .i64 o.kind) ?_ (hv := by (intro V hV; have hc := ka0 V hV.1; clear hV; go_simp; try rfl))
  try simp only [s1, s2, s3]
  refine tk 2 7 (.bool false) ?_
  try simp only [s1, s2, s3]
  refine tk 3 8 (.bool false) ?_
  try simp only [s1, s2, s3]
  refine tk 4 9 (.pointer (some ⟨x, 0, none⟩)) ?_
  try simp only [s1, s2, s3]
  refine tk 5 10 (.int .i64 o.kind) ?_ (hv := by (intro V hV; have hc := ka0 V hV.1; clear hV; go_simp; try rfl))
  try simp only [s1, s2, s3]
  refine tk 6 11 (.bool false) ?_
  try simp only [s1, s2, s3]
  refine tk 7 12 (.bool false) ?_
  try simp only [s1, s2, s3]
  refine tk 8 13 (.bool false) ?_
  try simp only [s1, s2, s3]
  refine tk 9 14 (.agg (oc o f l c p i)) ?_ (hv := by exact load_row_yields 32 (.tmp 1) rfl x rfl 32 (oc o f l c p i) (0, 0) _ (fun V hV => hV.1) Try.underlying32 rfl size32)
  try simp only [s1, s2, s3]
  refine tk 10 15 (.agg (oc o f l c p i)) ?_ (hv := by exact load_row_yields 32 (.tmp 1) rfl x rfl 32 (oc o f l c p i) (0, 0) _ (fun V hV => hV.1) Try.underlying32 rfl size32)
  try simp only [s1, s2, s3]
  refine wpAnyH_ready (rs := [11]) (by kernel_rfl) (by simp) ?_
  refine AllReadyH.cons rfl (fun K hK => ?_) ?_
  · rw [if_pos (by rfl)]
    go_simp
    go_at_call 81
    refine (only_any o f l c p i HK.out _ (R1.out.below (And.right ‹_ ∧ _›))).mono ?_
    rintro e wO ⟨f', l', c', p', i', rfl, hro, hbO⟩
    dsimp only
    refine hK.out _ _ (keepX lw.out (by assumption) hbO) (fun hHeld => ?_)
    clear hK K
    try simp only [Act.put, s1, s2, s3]
    refine wpAnyH_ready (rs := [12]) (by kernel_rfl) (by simp) ?_
    refine AllReadyH.cons rfl (fun K hK => ?_) ?_
    · rw [if_pos (by rfl)]
      go_simp
      go_at_call 18
      refine (same14_any o (onlyO o) f l c p i f' l' c' p' i' HSZ.out wO (R1.out.below hHeld.2) hro).mono ?_
      rw [only_same o HK.out, H2.out]
      rintro e wS ⟨rfl, hbS⟩
      dsimp only
      refine hK.out _ _ (keepX lw.out (by assumption) hbS) (fun hHeld => ?_)
      clear hK K
      try simp only [Act.put, s1, s2, s3]
      refine tk 13 18 (.bool false) ?_
      try simp only [s1, s2, s3]
      refine tk 14 19 (.bool false) ?_
      try simp only [s1, s2, s3]
      refine tk 15 20 (.bool false) ?_
      try simp only [s1, s2, s3]
      refine tk 16 21 (.pointer (some ⟨x, 2, none⟩)) ?_
      try simp only [s1, s2, s3]
      refine tk 17 22 (.int .i64 o.uid) ?_ (hv := by (intro V hV; have hc := ka2 V hV.1; clear hV; go_simp; try rfl))
      try simp only [s1, s2, s3]
      refine wpAnyH_ready (rs := [18]) (by kernel_rfl) (by simp) ?_
      refine AllReadyH.cons rfl (fun K hK => ?_) ?_
      · rw [if_pos (by rfl)]
        go_simp
        go_at_call 57
        refine (in_any o.uid 1099511627776 true H3.out _).mono ?_
        rintro e v3 ⟨rfl, hv3⟩
        have hw3 := hv3.symm
        clear hv3
        subst hw3
        dsimp only
        refine hK.out _ _ (by assumption) (fun hHeld => ?_)
        clear hK K
        try simp only [Act.put, s1, s2, s3]
        refine tk 19 24 (.bool false) ?_
        try simp only [s1, s2, s3]
        refine tk 20 25 (.bool false) ?_
        try simp only [s1, s2, s3]
        refine tk 21 26 (.bool false) ?_
        try simp only [s1, s2, s3]
        refine tk 22 27 (.pointer (some ⟨x, 3, none⟩)) ?_
        try simp only [s1, s2, s3]
        refine tk 23 28 (.int .i64 o.version) ?_ (hv := by (intro V hV; have hc := ka3 V hV.1; clear hV; go_simp; try rfl))
        try simp only [s1, s2, s3]
        refine wpAnyH_ready (rs := [24]) (by kernel_rfl) (by simp) ?_
        refine AllReadyH.cons rfl (fun K hK => ?_) ?_
        · rw [if_pos (by rfl)]
          go_simp
          go_at_call 57
          refine (in_any o.version 1099511627776 false H4.out _).mono ?_
          rintro e v4 ⟨rfl, hv4⟩
          have hw4 := hv4.symm
          clear hv4
          subst hw4
          dsimp only
          refine hK.out _ _ (by assumption) (fun hHeld => ?_)
          clear hK K
          try simp only [Act.put, s1, s2, s3]
          refine tk 25 30 (.bool true) ?_
          try simp only [s1, s2, s3]
          refine tk 26 31 (.bool true) ?_
          try simp only [s1, s2, s3]
          refine tk 27 32 (.bool true) ?_
          try simp only [s1, s2, s3]
          refine ts 28 33 ?_
          try simp only [s1, s2, s3]
          refine ts 29 34 ?_
          try simp only [s1, s2, s3]
          refine ts 30 35 ?_
          try simp only [s1, s2, s3]
          refine ts 31 36 ?_
          try simp only [s1, s2, s3]
          refine tk 32 37 (.bool true) ?_
          try simp only [s1, s2, s3]
          refine tk 33 38 (.bool true) ?_
          try simp only [s1, s2, s3]
          refine ts 34 39 ?_
          try simp only [s1, s2, s3]
          refine ts 35 40 ?_
          try simp only [s1, s2, s3]
          refine ts 36 41 ?_
          try simp only [s1, s2, s3]
          refine ts 37 42 ?_
          try simp only [s1, s2, s3]
          refine tk 38 43 (.bool true) ?_
          try simp only [s1, s2, s3]
          refine tk 39 44 (.bool true) ?_
          try simp only [s1, s2, s3]
          refine ts 40 45 ?_
          try simp only [s1, s2, s3]
          refine ts 41 46 ?_
          try simp only [s1, s2, s3]
          refine ts 42 47 ?_
          try simp only [s1, s2, s3]
          refine ts 43 48 ?_
          try simp only [s1, s2, s3]
          refine tk 44 49 (.bool true) ?_
          try simp only [s1, s2, s3]
          refine tk 45 50 (.bool true) ?_
          try simp only [s1, s2, s3]
          refine ts 46 51 ?_
          try simp only [s1, s2, s3]
          refine ts 47 52 ?_
          try simp only [s1, s2, s3]
          refine ts 48 53 ?_
          try simp only [s1, s2, s3]
          refine ts 49 54 ?_
          try simp only [s1, s2, s3]
          refine tk 50 55 (.bool true) ?_
          try simp only [s1, s2, s3]
          refine tk 51 56 (.bool true) ?_
          try simp only [s1, s2, s3]
          refine ts 52 57 ?_
          try simp only [s1, s2, s3]
          refine ts 53 58 ?_
          try simp only [s1, s2, s3]
          refine ts 54 59 ?_
          try simp only [s1, s2, s3]
          refine ts 55 60 ?_
          try simp only [s1, s2, s3]
          refine tk 56 61 (.bool true) ?_
          try simp only [s1, s2, s3]
          refine wpAnyH_done (by kernel_rfl) ?_ _
          have HE := Lib.hid hHeld
          go_wp2
          go_ret
          exact ⟨by rw [HS.out]; rfl, B1.out.trans (belowLe B1.out.size HE.out.2)⟩
        exact AllReadyH.nil
      exact AllReadyH.nil
    exact AllReadyH.nil
  exact AllReadyH.nil
set_option maxRecDepth 100000 in
set_option maxHeartbeats 4000000 in
theorem rshape_5 (o : Ob) (f l c p i : Sl) (hs : o.fins.length ≤ 1000000 ∧ o.labels.length ≤ 1000000 ∧ o.cidrs.length ≤ 1000000 ∧ o.fams.length ≤ 1000000 ∧ o.ips.length ≤ 1000000) (h0 : decide (o.kind < 1) = false) (h1 : decide (4 < o.kind) = false) (h2 : only o = true) (h3 : inR o.uid 1099511627776 = true) (h4 : inR o.version 1099511627776 = true) (h5 : inR o.type 255 = false) (w : World) (hr : RowsR w o f l c p i) :
    Calls Try.prog 47 #[.agg (oc o f l c p i)] w fun e w' => e = .returned (.bool (CodP.shape o)) ∧ Below w.heap.size w w' := by
  obtain ⟨w1, hw1, b1, p1⟩ := box_one w (oc o f l c p i) 32
  obtain ⟨x, hx⟩ : ∃ x, x = w.heap.size := ⟨_, rfl⟩
  have lw := Lib.hid (show x < w1.heap.size by rw [hx]; exact (Array.getElem?_eq_some_iff.1 p1).1)
  rw [← hx] at p1
  have ka0 : ∀ V : World, V.heap[x]? = some (.cells (oc o f l c p i) 32 (0, 0)) → V.cell? ⟨x, 0, none⟩ = some (.int .i64 o.kind) := fun V hV => by simp [World.cell?, hV, oc]
  have ka1 : ∀ V : World, V.heap[x]? = some (.cells (oc o f l c p i) 32 (0, 0)) → V.cell? ⟨x, 1, none⟩ = some (.string o.name) := fun V hV => by simp [World.cell?, hV, oc]
  have ka2 : ∀ V : World, V.heap[x]? = some (.cells (oc o f l c p i) 32 (0, 0)) → V.cell? ⟨x, 2, none⟩ = some (.int .i64 o.uid) := fun V hV => by simp [World.cell?, hV, oc]
  have ka3 : ∀ V : World, V.heap[x]? = some (.cells (oc o f l c p i) 32 (0, 0)) → V.cell? ⟨x, 3, none⟩ = some (.int .i64 o.version) := fun V hV => by simp [World.cell?, hV, oc]
  have ka4 : ∀ V : World, V.heap[x]? = some (.cells (oc o f l c p i) 32 (0, 0)) → V.cell? ⟨x, 4, none⟩ = some (.bool o.deleting) := fun V hV => by simp [World.cell?, hV, oc]
  have ka5 : ∀ V : World, V.heap[x]? = some (.cells (oc o f l c p i) 32 (0, 0)) → V.cell? ⟨x, 5, none⟩ = some (.slice f.A o.fins.length f.c) := fun V hV => by simp [World.cell?, hV, oc]
  have ka6 : ∀ V : World, V.heap[x]? = some (.cells (oc o f l c p i) 32 (0, 0)) → V.cell? ⟨x, 6, none⟩ = some (.slice l.A o.labels.length l.c) := fun V hV => by simp [World.cell?, hV, oc]
  have ka7 : ∀ V : World, V.heap[x]? = some (.cells (oc o f l c p i) 32 (0, 0)) → V.cell? ⟨x, 7, none⟩ = some (.slice c.A o.cidrs.length c.c) := fun V hV => by simp [World.cell?, hV, oc]
  have ka8 : ∀ V : World, V.heap[x]? = some (.cells (oc o f l c p i) 32 (0, 0)) → V.cell? ⟨x, 8, none⟩ = some (.string o.status) := fun V hV => by simp [World.cell?, hV, oc]
  have ka9 : ∀ V : World, V.heap[x]? = some (.cells (oc o f l c p i) 32 (0, 0)) → V.cell? ⟨x, 9, none⟩ = some (.int .i64 o.type) := fun V hV => by simp [World.cell?, hV, oc]
  have ka10 : ∀ V : World, V.heap[x]? = some (.cells (oc o f l c p i) 32 (0, 0)) → V.cell? ⟨x, 10, none⟩ = some (.int .i64 o.policy) := fun V hV => by simp [World.cell?, hV, oc]
  have ka11 : ∀ V : World, V.heap[x]? = some (.cells (oc o f l c p i) 32 (0, 0)) → V.cell? ⟨x, 11, none⟩ = some (.slice p.A o.fams.length p.c) := fun V hV => by simp [World.cell?, hV, oc]
  have ka12 : ∀ V : World, V.heap[x]? = some (.cells (oc o f l c p i) 32 (0, 0)) → V.cell? ⟨x, 12, none⟩ = some (.slice i.A o.ips.length i.c) := fun V hV => by simp [World.cell?, hV, oc]
  have ka13 : ∀ V : World, V.heap[x]? = some (.cells (oc o f l c p i) 32 (0, 0)) → V.cell? ⟨x, 13, none⟩ = some (.string o.v4) := fun V hV => by simp [World.cell?, hV, oc]
  have ka14 : ∀ V : World, V.heap[x]? = some (.cells (oc o f l c p i) 32 (0, 0)) → V.cell? ⟨x, 14, none⟩ = some (.string o.v6) := fun V hV => by simp [World.cell?, hV, oc]
  have ka15 : ∀ V : World, V.heap[x]? = some (.cells (oc o f l c p i) 32 (0, 0)) → V.cell? ⟨x, 15, none⟩ = some (.int .i64 o.bits) := fun V hV => by simp [World.cell?, hV, oc]
  have ka16 : ∀ V : World, V.heap[x]? = some (.cells (oc o f l c p i) 32 (0, 0)) → V.cell? ⟨x, 16, none⟩ = some (.string o.sel) := fun V hV => by simp [World.cell?, hV, oc]
  have ka17 : ∀ V : World, V.heap[x]? = some (.cells (oc o f l c p i) 32 (0, 0)) → V.cell? ⟨x, 17, none⟩ = some (.string o.about) := fun V hV => by simp [World.cell?, hV, oc]
  have ka18 : ∀ V : World, V.heap[x]? = some (.cells (oc o f l c p i) 32 (0, 0)) → V.cell? ⟨x, 18, none⟩ = some (.string o.reason) := fun V hV => by simp [World.cell?, hV, oc]
  have R1 := Lib.hid (hr.below b1)
  have HSZ := Lib.hid hs
  have HK := Lib.hid (show 1 ≤ o.kind ∧ o.kind ≤ 4 from ⟨by have := of_decide_eq_false h0; omega, by have := of_decide_eq_false h1; omega⟩)
  have hS : CodP.shape o = false := by
    rw [shape_parts]
    have e := h5
    rw [e]; simp only [Bool.false_and, Bool.and_false]
  have HS := Lib.hid hS
  clear hS
  have H2 := Lib.hid h2
  clear h2
  have H3 := Lib.hid h3
  clear h3
  have H4 := Lib.hid h4
  clear h4
  have H5 := Lib.hid h5
  clear h5
  have HW := Lib.hid hw1
  have B1 := Lib.hid b1
  have P1 := Lib.hid p1
  clear b1 p1 hw1 hr hs
  go_enter Try.func47, Try.ntmps47
  go_upto_region 1 with (fail)
  rw [← HW.out, ← hx]
  clear hx
  refine wp_region_held_drew (S := fun V => V.heap[x]? = some (.cells (oc o f l c p i) 32 (0, 0)) ∧ Below w1.heap.size w1 V) (by kernel_rfl) ⟨P1.out, ⟨rfl, rfl, rfl, Nat.le_refl _, fun _ _ => rfl⟩⟩ (fun hS0 => ?_)
  refine tk 0 5 (.pointer (some ⟨x, 0, none⟩)) ?_
  try simp only [s1, s2, s3]
  refine tk 1 6 (.int .i64 o.kind) ?_ (hv := by (intro V hV; have hc := ka0 V hV.1; clear hV; go_simp; try rfl))
  try simp only [s1, s2, s3]
  refine tk 2 7 (.bool false) ?_
  try simp only [s1, s2, s3]
  refine tk 3 8 (.bool false) ?_
  try simp only [s1, s2, s3]
  refine tk 4 9 (.pointer (some ⟨x, 0, none⟩)) ?_
  try simp only [s1, s2, s3]
  refine tk 5 10 (.int .i64 o.kind) ?_ (hv := by (intro V hV; have hc := ka0 V hV.1; clear hV; go_simp; try rfl))
  try simp only [s1, s2, s3]
  refine tk 6 11 (.bool false) ?_
  try simp only [s1, s2, s3]
  refine tk 7 12 (.bool false) ?_
  try simp only [s1, s2, s3]
  refine tk 8 13 (.bool false) ?_
  try simp only [s1, s2, s3]
  refine tk 9 14 (.agg (oc o f l c p i)) ?_ (hv := by exact load_row_yields 32 (.tmp 1) rfl x rfl 32 (oc o f l c p i) (0, 0) _ (fun V hV => hV.1) Try.underlying32 rfl size32)
  try simp only [s1, s2, s3]
  refine tk 10 15 (.agg (oc o f l c p i)) ?_ (hv := by exact load_row_yields 32 (.tmp 1) rfl x rfl 32 (oc o f l c p i) (0, 0) _ (fun V hV => hV.1) Try.underlying32 rfl size32)
  try simp only [s1, s2, s3]
  refine wpAnyH_ready (rs := [11]) (by kernel_rfl) (by simp) ?_
  refine AllReadyH.cons rfl (fun K hK => ?_) ?_
  · rw [if_pos (by rfl)]
    go_simp
    go_at_call 81
    refine (only_any o f l c p i HK.out _ (R1.out.below (And.right ‹_ ∧ _›))).mono ?_
    rintro e wO ⟨f', l', c', p', i', rfl, hro, hbO⟩
    dsimp only
    refine hK.out _ _ (keepX lw.out (by assumption) hbO) (fun hHeld => ?_)
    clear hK K
    try simp only [Act.put, s1, s2, s3]
    refine wpAnyH_ready (rs := [12]) (by kernel_rfl) (by simp) ?_
    refine AllReadyH.cons rfl (fun K hK => ?_) ?_
    · rw [if_pos (by rfl)]
      go_simp
      go_at_call 18
      refine (same14_any o (onlyO o) f l c p i f' l' c' p' i' HSZ.out wO (R1.out.below hHeld.2) hro).mono ?_
      rw [only_same o HK.out, H2.out]
      rintro e wS ⟨rfl, hbS⟩
      dsimp only
      refine hK.out _ _ (keepX lw.out (by assumption) hbS) (fun hHeld => ?_)
      clear hK K
      try simp only [Act.put, s1, s2, s3]
      refine tk 13 18 (.bool false) ?_
      try simp only [s1, s2, s3]
      refine tk 14 19 (.bool false) ?_
      try simp only [s1, s2, s3]
      refine tk 15 20 (.bool false) ?_
      try simp only [s1, s2, s3]
      refine tk 16 21 (.pointer (some ⟨x, 2, none⟩)) ?_
      try simp only [s1, s2, s3]
      refine tk 17 22 (.int .i64 o.uid) ?_ (hv := by (intro V hV; have hc := ka2 V hV.1; clear hV; go_simp; try rfl))
      try simp only [s1, s2, s3]
      refine wpAnyH_ready (rs := [18]) (by kernel_rfl) (by simp) ?_
      refine AllReadyH.cons rfl (fun K hK => ?_) ?_
      · rw [if_pos (by rfl)]
        go_simp
        go_at_call 57
        refine (in_any o.uid 1099511627776 true H3.out _).mono ?_
        rintro e v3 ⟨rfl, hv3⟩
        have hw3 := hv3.symm
        clear hv3
        subst hw3
        dsimp only
        refine hK.out _ _ (by assumption) (fun hHeld => ?_)
        clear hK K
        try simp only [Act.put, s1, s2, s3]
        refine tk 19 24 (.bool false) ?_
        try simp only [s1, s2, s3]
        refine tk 20 25 (.bool false) ?_
        try simp only [s1, s2, s3]
        refine tk 21 26 (.bool false) ?_
        try simp only [s1, s2, s3]
        refine tk 22 27 (.pointer (some ⟨x, 3, none⟩)) ?_
        try simp only [s1, s2, s3]
        refine tk 23 28 (.int .i64 o.version) ?_ (hv := by (intro V hV; have hc := ka3 V hV.1; clear hV; go_simp; try rfl))
        try simp only [s1, s2, s3]
        refine wpAnyH_ready (rs := [24]) (by kernel_rfl) (by simp) ?_
        refine AllReadyH.cons rfl (fun K hK => ?_) ?_
        · rw [if_pos (by rfl)]
          go_simp
          go_at_call 57
          refine (in_any o.version 1099511627776 true H4.out _).mono ?_
          rintro e v4 ⟨rfl, hv4⟩
          have hw4 := hv4.symm
          clear hv4
          subst hw4
          dsimp only
          refine hK.out _ _ (by assumption) (fun hHeld => ?_)
          clear hK K
          try simp only [Act.put, s1, s2, s3]
          refine tk 25 30 (.bool false) ?_
          try simp only [s1, s2, s3]
          refine tk 26 31 (.bool false) ?_
          try simp only [s1, s2, s3]
          refine tk 27 32 (.bool false) ?_
          try simp only [s1, s2, s3]
          refine tk 28 33 (.pointer (some ⟨x, 9, none⟩)) ?_
          try simp only [s1, s2, s3]
          refine tk 29 34 (.int .i64 o.type) ?_ (hv := by (intro V hV; have hc := ka9 V hV.1; clear hV; go_simp; try rfl))
          try simp only [s1, s2, s3]
          refine wpAnyH_ready (rs := [30]) (by kernel_rfl) (by simp) ?_
          refine AllReadyH.cons rfl (fun K hK => ?_) ?_
          · rw [if_pos (by rfl)]
            go_simp
            go_at_call 57
            refine (in_any o.type 255 false H5.out _).mono ?_
            rintro e v5 ⟨rfl, hv5⟩
            have hw5 := hv5.symm
            clear hv5
            subst hw5
            dsimp only
            refine hK.out _ _ (by assumption) (fun hHeld => ?_)
            clear hK K
            try simp only [Act.put, s1, s2, s3]
            refine tk 31 36 (.bool true) ?_
            try simp only [s1, s2, s3]
            refine tk 32 37 (.bool true) ?_
            try simp only [s1, s2, s3]
            refine tk 33 38 (.bool true) ?_
            try simp only [s1, s2, s3]
            refine ts 34 39 ?_
            try simp only [s1, s2, s3]
            refine ts 35 40 ?_
            try simp only [s1, s2, s3]
            refine ts 36 41 ?_
            try simp only [s1, s2, s3]
            refine ts 37 42 ?_
            try simp only [s1, s2, s3]
            refine tk 38 43 (.bool true) ?_
            try simp only [s1, s2, s3]
            refine tk 39 44 (.bool true) ?_
            try simp only [s1, s2, s3]
            refine ts 40 45 ?_
            try simp only [s1, s2, s3]
            refine ts 41 46 ?_
            try simp only [s1, s2, s3]
            refine ts 42 47 ?_
            try simp only [s1, s2, s3]
            refine ts 43 48 ?_
            try simp only [s1, s2, s3]
            refine tk 44 49 (.bool true) ?_
            try simp only [s1, s2, s3]
            refine tk 45 50 (.bool true) ?_
            try simp only [s1, s2, s3]
            refine ts 46 51 ?_
            try simp only [s1, s2, s3]
            refine ts 47 52 ?_
            try simp only [s1, s2, s3]
            refine ts 48 53 ?_
            try simp only [s1, s2, s3]
            refine ts 49 54 ?_
            try simp only [s1, s2, s3]
            refine tk 50 55 (.bool true) ?_
            try simp only [s1, s2, s3]
            refine tk 51 56 (.bool true) ?_
            try simp only [s1, s2, s3]
            refine ts 52 57 ?_
            try simp only [s1, s2, s3]
            refine ts 53 58 ?_
            try simp only [s1, s2, s3]
            refine ts 54 59 ?_
            try simp only [s1, s2, s3]
            refine ts 55 60 ?_
            try simp only [s1, s2, s3]
            refine tk 56 61 (.bool true) ?_
            try simp only [s1, s2, s3]
            refine wpAnyH_done (by kernel_rfl) ?_ _
            have HE := Lib.hid hHeld
            go_wp2
            go_ret
            exact ⟨by rw [HS.out]; rfl, B1.out.trans (belowLe B1.out.size HE.out.2)⟩
          exact AllReadyH.nil
        exact AllReadyH.nil
      exact AllReadyH.nil
    exact AllReadyH.nil
  exact AllReadyH.nil
set_option maxRecDepth 100000 in
set_option maxHeartbeats 4000000 in
theorem rshape_6 (o : Ob) (f l c p i : Sl) (hs : o.fins.length ≤ 1000000 ∧ o.labels.length ≤ 1000000 ∧ o.cidrs.length ≤ 1000000 ∧ o.fams.length ≤ 1000000 ∧ o.ips.length ≤ 1000000) (h0 : decide (o.kind < 1) = false) (h1 : decide (4 < o.kind) = false) (h2 : only o = true) (h3 : inR o.uid 1099511627776 = true) (h4 : inR o.version 1099511627776 = true) (h5 : inR o.type 255 = true) (h6 : inR o.policy 255 = false) (w : World) (hr : RowsR w o f l c p i) :
    Calls Try.prog 47 #[.agg (oc o f l c p i)] w fun e w' => e = .returned (.bool (CodP.shape o)) ∧ Below w.heap.size w w' := by
  obtain ⟨w1, hw1, b1, p1⟩ := box_one w (oc o f l c p i) 32
  obtain ⟨x, hx⟩ : ∃ x, x = w.heap.size := ⟨_, rfl⟩
  have lw := Lib.hid (show x < w1.heap.size by rw [hx]; exact (Array.getElem?_eq_some_iff.1 p1).1)
  rw [← hx] at p1
  have ka0 : ∀ V : World, V.heap[x]? = some (.cells (oc o f l c p i) 32 (0, 0)) → V.cell? ⟨x, 0, none⟩ = some (.int .i64 o.kind) := fun V hV => by simp [World.cell?, hV, oc]
  have ka1 : ∀ V : World, V.heap[x]? = some (.cells (oc o f l c p i) 32 (0, 0)) → V.cell? ⟨x, 1, none⟩ = some (.string o.name) := fun V hV => by simp [World.cell?, hV, oc]
  have ka2 : ∀ V : World, V.heap[x]? = some (.cells (oc o f l c p i) 32 (0, 0)) → V.cell? ⟨x, 2, none⟩ = some (.int .i64 o.uid) := fun V hV => by simp [World.cell?, hV, oc]
  have ka3 : ∀ V : World, V.heap[x]? = some (.cells (oc o f l c p i) 32 (0, 0)) → V.cell? ⟨x, 3, none⟩ = some (.int .i64 o.version) := fun V hV => by simp [World.cell?, hV, oc]
  have ka4 : ∀ V : World, V.heap[x]? = some (.cells (oc o f l c p i) 32 (0, 0)) → V.cell? ⟨x, 4, none⟩ = some (.bool o.deleting) := fun V hV => by simp [World.cell?, hV, oc]
  have ka5 : ∀ V : World, V.heap[x]? = some (.cells (oc o f l c p i) 32 (0, 0)) → V.cell? ⟨x, 5, none⟩ = some (.slice f.A o.fins.length f.c) := fun V hV => by simp [World.cell?, hV, oc]
  have ka6 : ∀ V : World, V.heap[x]? = some (.cells (oc o f l c p i) 32 (0, 0)) → V.cell? ⟨x, 6, none⟩ = some (.slice l.A o.labels.length l.c) := fun V hV => by simp [World.cell?, hV, oc]
  have ka7 : ∀ V : World, V.heap[x]? = some (.cells (oc o f l c p i) 32 (0, 0)) → V.cell? ⟨x, 7, none⟩ = some (.slice c.A o.cidrs.length c.c) := fun V hV => by simp [World.cell?, hV, oc]
  have ka8 : ∀ V : World, V.heap[x]? = some (.cells (oc o f l c p i) 32 (0, 0)) → V.cell? ⟨x, 8, none⟩ = some (.string o.status) := fun V hV => by simp [World.cell?, hV, oc]
  have ka9 : ∀ V : World, V.heap[x]? = some (.cells (oc o f l c p i) 32 (0, 0)) → V.cell? ⟨x, 9, none⟩ = some (.int .i64 o.type) := fun V hV => by simp [World.cell?, hV, oc]
  have ka10 : ∀ V : World, V.heap[x]? = some (.cells (oc o f l c p i) 32 (0, 0)) → V.cell? ⟨x, 10, none⟩ = some (.int .i64 o.policy) := fun V hV => by simp [World.cell?, hV, oc]
  have ka11 : ∀ V : World, V.heap[x]? = some (.cells (oc o f l c p i) 32 (0, 0)) → V.cell? ⟨x, 11, none⟩ = some (.slice p.A o.fams.length p.c) := fun V hV => by simp [World.cell?, hV, oc]
  have ka12 : ∀ V : World, V.heap[x]? = some (.cells (oc o f l c p i) 32 (0, 0)) → V.cell? ⟨x, 12, none⟩ = some (.slice i.A o.ips.length i.c) := fun V hV => by simp [World.cell?, hV, oc]
  have ka13 : ∀ V : World, V.heap[x]? = some (.cells (oc o f l c p i) 32 (0, 0)) → V.cell? ⟨x, 13, none⟩ = some (.string o.v4) := fun V hV => by simp [World.cell?, hV, oc]
  have ka14 : ∀ V : World, V.heap[x]? = some (.cells (oc o f l c p i) 32 (0, 0)) → V.cell? ⟨x, 14, none⟩ = some (.string o.v6) := fun V hV => by simp [World.cell?, hV, oc]
  have ka15 : ∀ V : World, V.heap[x]? = some (.cells (oc o f l c p i) 32 (0, 0)) → V.cell? ⟨x, 15, none⟩ = some (.int .i64 o.bits) := fun V hV => by simp [World.cell?, hV, oc]
  have ka16 : ∀ V : World, V.heap[x]? = some (.cells (oc o f l c p i) 32 (0, 0)) → V.cell? ⟨x, 16, none⟩ = some (.string o.sel) := fun V hV => by simp [World.cell?, hV, oc]
  have ka17 : ∀ V : World, V.heap[x]? = some (.cells (oc o f l c p i) 32 (0, 0)) → V.cell? ⟨x, 17, none⟩ = some (.string o.about) := fun V hV => by simp [World.cell?, hV, oc]
  have ka18 : ∀ V : World, V.heap[x]? = some (.cells (oc o f l c p i) 32 (0, 0)) → V.cell? ⟨x, 18, none⟩ = some (.string o.reason) := fun V hV => by simp [World.cell?, hV, oc]
  have R1 := Lib.hid (hr.below b1)
  have HSZ := Lib.hid hs
  have HK := Lib.hid (show 1 ≤ o.kind ∧ o.kind ≤ 4 from ⟨by have := of_decide_eq_false h0; omega, by have := of_decide_eq_false h1; omega⟩)
  have hS : CodP.shape o = false := by
    rw [shape_parts]
    have e := h6
    rw [e]; simp only [Bool.false_and, Bool.and_false]
  have HS := Lib.hid hS
  clear hS
  have H2 := Lib.hid h2
  clear h2
  have H3 := Lib.hid h3
  clear h3
  have H4 := Lib.hid h4
  clear h4
  have H5 := Lib.hid h5
  clear h5
  have H6 := Lib.hid h6
  clear h6
  have HW := Lib.hid hw1
  have B1 := Lib.hid b1
  have P1 := Lib.hid p1
  clear b1 p1 hw1 hr hs
  go_enter Try.func47, Try.ntmps47
  go_upto_region 1 with (fail)
  rw [← HW.out, ← hx]
  clear hx
  refine wp_region_held_drew (S := fun V => V.heap[x]? = some (.cells (oc o f l c p i) 32 (0, 0)) ∧ Below w1.heap.size w1 V) (by kernel_rfl) ⟨P1.out, ⟨rfl, rfl, rfl, Nat.le_refl _, fun _ _ => rfl⟩⟩ (fun hS0 => ?_)
  refine tk 0 5 (.pointer (some ⟨x, 0, none⟩)) ?_
  try simp only [s1, s2, s3]
  refine tk 1 6 (.int .i64 o.kind) ?_ (hv := by (intro V hV; have hc := ka0 V hV.1; clear hV; go_simp; try rfl))
  try simp only [s1, s2, s3]
  refine tk 2 7 (.bool false) ?_
  try simp only [s1, s2, s3]
  refine tk 3 8 (.bool false) ?_
  try simp only [s1, s2, s3]
  refine tk 4 9 (.pointer (some ⟨x, 0, none⟩)) ?_
  try simp only [s1, s2, s3]
  refine tk 5 10 (.int .i64 o.kind) ?_ (hv := by (intro V hV; have hc := ka0 V hV.1; clear hV; go_simp; try rfl))
  try simp only [s1, s2, s3]
  refine tk 6 11 (.bool false) ?_
  try simp only [s1, s2, s3]
  refine tk 7 12 (.bool false) ?_
  try simp only [s1, s2, s3]
  refine tk 8 13 (.bool false) ?_
  try simp only [s1, s2, s3]
  refine tk 9 14 (.agg (oc o f l c p i)) ?_ (hv := by exact load_row_yields 32 (.tmp 1) rfl x rfl 32 (oc o f l c p i) (0, 0) _ (fun V hV => hV.1) Try.underlying32 rfl size32)
  try simp only [s1, s2, s3]
  refine tk 10 15 (.agg (oc o f l c p i)) ?_ (hv := by exact load_row_yields 32 (.tmp 1) rfl x rfl 32 (oc o f l c p i) (0, 0) _ (fun V hV => hV.1) Try.underlying32 rfl size32)
  try simp only [s1, s2, s3]
  refine wpAnyH_ready (rs := [11]) (by kernel_rfl) (by simp) ?_
  refine AllReadyH.cons rfl (fun K hK => ?_) ?_
  · rw [if_pos (by rfl)]
    go_simp
    go_at_call 81
    refine (only_any o f l c p i HK.out _ (R1.out.below (And.right ‹_ ∧ _›))).mono ?_
    rintro e wO ⟨f', l', c', p', i', rfl, hro, hbO⟩
    dsimp only
    refine hK.out _ _ (keepX lw.out (by assumption) hbO) (fun hHeld => ?_)
    clear hK K
    try simp only [Act.put, s1, s2, s3]
    refine wpAnyH_ready (rs := [12]) (by kernel_rfl) (by simp) ?_
    refine AllReadyH.cons rfl (fun K hK => ?_) ?_
    · rw [if_pos (by rfl)]
      go_simp
      go_at_call 18
      refine (same14_any o (onlyO o) f l c p i f' l' c' p' i' HSZ.out wO (R1.out.below hHeld.2) hro).mono ?_
      rw [only_same o HK.out, H2.out]
      rintro e wS ⟨rfl, hbS⟩
      dsimp only
      refine hK.out _ _ (keepX lw.out (by assumption) hbS) (fun hHeld => ?_)
      clear hK K
      try simp only [Act.put, s1, s2, s3]
      refine tk 13 18 (.bool false) ?_
      try simp only [s1, s2, s3]
      refine tk 14 19 (.bool false) ?_
      try simp only [s1, s2, s3]
      refine tk 15 20 (.bool false) ?_
      try simp only [s1, s2, s3]
      refine tk 16 21 (.pointer (some ⟨x, 2, none⟩)) ?_
      try simp only [s1, s2, s3]
      refine tk 17 22 (.int .i64 o.uid) ?_ (hv := by (intro V hV; have hc := ka2 V hV.1; clear hV; go_simp; try rfl))
      try simp only [s1, s2, s3]
      refine wpAnyH_ready (rs := [18]) (by kernel_rfl) (by simp) ?_
      refine AllReadyH.cons rfl (fun K hK => ?_) ?_
      · rw [if_pos (by rfl)]
        go_simp
        go_at_call 57
        refine (in_any o.uid 1099511627776 true H3.out _).mono ?_
        rintro e v3 ⟨rfl, hv3⟩
        have hw3 := hv3.symm
        clear hv3
        subst hw3
        dsimp only
        refine hK.out _ _ (by assumption) (fun hHeld => ?_)
        clear hK K
        try simp only [Act.put, s1, s2, s3]
        refine tk 19 24 (.bool false) ?_
        try simp only [s1, s2, s3]
        refine tk 20 25 (.bool false) ?_
        try simp only [s1, s2, s3]
        refine tk 21 26 (.bool false) ?_
        try simp only [s1, s2, s3]
        refine tk 22 27 (.pointer (some ⟨x, 3, none⟩)) ?_
        try simp only [s1, s2, s3]
        refine tk 23 28 (.int .i64 o.version) ?_ (hv := by (intro V hV; have hc := ka3 V hV.1; clear hV; go_simp; try rfl))
        try simp only [s1, s2, s3]
        refine wpAnyH_ready (rs := [24]) (by kernel_rfl) (by simp) ?_
        refine AllReadyH.cons rfl (fun K hK => ?_) ?_
        · rw [if_pos (by rfl)]
          go_simp
          go_at_call 57
          refine (in_any o.version 1099511627776 true H4.out _).mono ?_
          rintro e v4 ⟨rfl, hv4⟩
          have hw4 := hv4.symm
          clear hv4
          subst hw4
          dsimp only
          refine hK.out _ _ (by assumption) (fun hHeld => ?_)
          clear hK K
          try simp only [Act.put, s1, s2, s3]
          refine tk 25 30 (.bool false) ?_
          try simp only [s1, s2, s3]
          refine tk 26 31 (.bool false) ?_
          try simp only [s1, s2, s3]
          refine tk 27 32 (.bool false) ?_
          try simp only [s1, s2, s3]
          refine tk 28 33 (.pointer (some ⟨x, 9, none⟩)) ?_
          try simp only [s1, s2, s3]
          refine tk 29 34 (.int .i64 o.type) ?_ (hv := by (intro V hV; have hc := ka9 V hV.1; clear hV; go_simp; try rfl))
          try simp only [s1, s2, s3]
          refine wpAnyH_ready (rs := [30]) (by kernel_rfl) (by simp) ?_
          refine AllReadyH.cons rfl (fun K hK => ?_) ?_
          · rw [if_pos (by rfl)]
            go_simp
            go_at_call 57
            refine (in_any o.type 255 true H5.out _).mono ?_
            rintro e v5 ⟨rfl, hv5⟩
            have hw5 := hv5.symm
            clear hv5
            subst hw5
            dsimp only
            refine hK.out _ _ (by assumption) (fun hHeld => ?_)
            clear hK K
            try simp only [Act.put, s1, s2, s3]
            refine tk 31 36 (.bool false) ?_
            try simp only [s1, s2, s3]
            refine tk 32 37 (.bool false) ?_
            try simp only [s1, s2, s3]
            refine tk 33 38 (.bool false) ?_
            try simp only [s1, s2, s3]
            refine tk 34 39 (.pointer (some ⟨x, 10, none⟩)) ?_
            try simp only [s1, s2, s3]
            refine tk 35 40 (.int .i64 o.policy) ?_ (hv := by (intro V hV; have hc := ka10 V hV.1; clear hV; go_simp; try rfl))
            try simp only [s1, s2, s3]
            refine wpAnyH_ready (rs := [36]) (by kernel_rfl) (by simp) ?_
            refine AllReadyH.cons rfl (fun K hK => ?_) ?_
            · rw [if_pos (by rfl)]
              go_simp
              go_at_call 57
              refine (in_any o.policy 255 false H6.out _).mono ?_
              rintro e v6 ⟨rfl, hv6⟩
              have hw6 := hv6.symm
              clear hv6
              subst hw6
              dsimp only
              refine hK.out _ _ (by assumption) (fun hHeld => ?_)
              clear hK K
              try simp only [Act.put, s1, s2, s3]
              refine tk 37 42 (.bool true) ?_
              try simp only [s1, s2, s3]
              refine tk 38 43 (.bool true) ?_
              try simp only [s1, s2, s3]
              refine tk 39 44 (.bool true) ?_
              try simp only [s1, s2, s3]
              refine ts 40 45 ?_
              try simp only [s1, s2, s3]
              refine ts 41 46 ?_
              try simp only [s1, s2, s3]
              refine ts 42 47 ?_
              try simp only [s1, s2, s3]
              refine ts 43 48 ?_
              try simp only [s1, s2, s3]
              refine tk 44 49 (.bool true) ?_
              try simp only [s1, s2, s3]
              refine tk 45 50 (.bool true) ?_
              try simp only [s1, s2, s3]
              refine ts 46 51 ?_
              try simp only [s1, s2, s3]
              refine ts 47 52 ?_
              try simp only [s1, s2, s3]
              refine ts 48 53 ?_
              try simp only [s1, s2, s3]
              refine ts 49 54 ?_
              try simp only [s1, s2, s3]
              refine tk 50 55 (.bool true) ?_
              try simp only [s1, s2, s3]
              refine tk 51 56 (.bool true) ?_
              try simp only [s1, s2, s3]
              refine ts 52 57 ?_
              try simp only [s1, s2, s3]
              refine ts 53 58 ?_
              try simp only [s1, s2, s3]
              refine ts 54 59 ?_
              try simp only [s1, s2, s3]
              refine ts 55 60 ?_
              try simp only [s1, s2, s3]
              refine tk 56 61 (.bool true) ?_
              try simp only [s1, s2, s3]
              refine wpAnyH_done (by kernel_rfl) ?_ _
              have HE := Lib.hid hHeld
              go_wp2
              go_ret
              exact ⟨by rw [HS.out]; rfl, B1.out.trans (belowLe B1.out.size HE.out.2)⟩
            exact AllReadyH.nil
          exact AllReadyH.nil
        exact AllReadyH.nil
      exact AllReadyH.nil
    exact AllReadyH.nil
  exact AllReadyH.nil
set_option maxRecDepth 100000 in
set_option maxHeartbeats 4000000 in
theorem rshape_7 (o : Ob) (f l c p i : Sl) (hs : o.fins.length ≤ 1000000 ∧ o.labels.length ≤ 1000000 ∧ o.cidrs.length ≤ 1000000 ∧ o.fams.length ≤ 1000000 ∧ o.ips.length ≤ 1000000) (h0 : decide (o.kind < 1) = false) (h1 : decide (4 < o.kind) = false) (h2 : only o = true) (h3 : inR o.uid 1099511627776 = true) (h4 : inR o.version 1099511627776 = true) (h5 : inR o.type 255 = true) (h6 : inR o.policy 255 = true) (h7 : inR o.bits 255 = false) (w : World) (hr : RowsR w o f l c p i) :
    Calls Try.prog 47 #[.agg (oc o f l c p i)] w fun e w' => e = .returned (.bool (CodP.shape o)) ∧ Below w.heap.size w w' := by
  obtain ⟨w1, hw1, b1, p1⟩ := box_one w (oc o f l c p i) 32
  obtain ⟨x, hx⟩ : ∃ x, x = w.heap.size := ⟨_, rfl⟩
  have lw := Lib.hid (show x < w1.heap.size by rw [hx]; exact (Array.getElem?_eq_some_iff.1 p1).1)
  rw [← hx] at p1
  have ka0 : ∀ V : World, V.heap[x]? = some (.cells (oc o f l c p i) 32 (0, 0)) → V.cell? ⟨x, 0, none⟩ = some (.int .i64 o.kind) := fun V hV => by simp [World.cell?, hV, oc]
  have ka1 : ∀ V : World, V.heap[x]? = some (.cells (oc o f l c p i) 32 (0, 0)) → V.cell? ⟨x, 1, none⟩ = some (.string o.name) := fun V hV => by simp [World.cell?, hV, oc]
  have ka2 : ∀ V : World, V.heap[x]? = some (.cells (oc o f l c p i) 32 (0, 0)) → V.cell? ⟨x, 2, none⟩ = some (.int .i64 o.uid) := fun V hV => by simp [World.cell?, hV, oc]
  have ka3 : ∀ V : World, V.heap[x]? = some (.cells (oc o f l c p i) 32 (0, 0)) → V.cell? ⟨x, 3, none⟩ = some (.int .i64 o.version) := fun V hV => by simp [World.cell?, hV, oc]
  have ka4 : ∀ V : World, V.heap[x]? = some (.cells (oc o f l c p i) 32 (0, 0)) → V.cell? ⟨x, 4, none⟩ = some (.bool o.deleting) := fun V hV => by simp [World.cell?, hV, oc]
  have ka5 : ∀ V : World, V.heap[x]? = some (.cells (oc o f l c p i) 32 (0, 0)) → V.cell? ⟨x, 5, none⟩ = some (.slice f.A o.fins.length f.c) := fun V hV => by simp [World.cell?, hV, oc]
  have ka6 : ∀ V : World, V.heap[x]? = some (.cells (oc o f l c p i) 32 (0, 0)) → V.cell? ⟨x, 6, none⟩ = some (.slice l.A o.labels.length l.c) := fun V hV => by simp [World.cell?, hV, oc]
  have ka7 : ∀ V : World, V.heap[x]? = some (.cells (oc o f l c p i) 32 (0, 0)) → V.cell? ⟨x, 7, none⟩ = some (.slice c.A o.cidrs.length c.c) := fun V hV => by simp [World.cell?, hV, oc]
  have ka8 : ∀ V : World, V.heap[x]? = some (.cells (oc o f l c p i) 32 (0, 0)) → V.cell? ⟨x, 8, none⟩ = some (.string o.status) := fun V hV => by simp [World.cell?, hV, oc]
  have ka9 : ∀ V : World, V.heap[x]? = some (.cells (oc o f l c p i) 32 (0, 0)) → V.cell? ⟨x, 9, none⟩ = some (.int .i64 o.type) := fun V hV => by simp [World.cell?, hV, oc]
  have ka10 : ∀ V : World, V.heap[x]? = some (.cells (oc o f l c p i) 32 (0, 0)) → V.cell? ⟨x, 10, none⟩ = some (.int .i64 o.policy) := fun V hV => by simp [World.cell?, hV, oc]
  have ka11 : ∀ V : World, V.heap[x]? = some (.cells (oc o f l c p i) 32 (0, 0)) → V.cell? ⟨x, 11, none⟩ = some (.slice p.A o.fams.length p.c) := fun V hV => by simp [World.cell?, hV, oc]
  have ka12 : ∀ V : World, V.heap[x]? = some (.cells (oc o f l c p i) 32 (0, 0)) → V.cell? ⟨x, 12, none⟩ = some (.slice i.A o.ips.length i.c) := fun V hV => by simp [World.cell?, hV, oc]
  have ka13 : ∀ V : World, V.heap[x]? = some (.cells (oc o f l c p i) 32 (0, 0)) → V.cell? ⟨x, 13, none⟩ = some (.string o.v4) := fun V hV => by simp [World.cell?, hV, oc]
  have ka14 : ∀ V : World, V.heap[x]? = some (.cells (oc o f l c p i) 32 (0, 0)) → V.cell? ⟨x, 14, none⟩ = some (.string o.v6) := fun V hV => by simp [World.cell?, hV, oc]
  have ka15 : ∀ V : World, V.heap[x]? = some (.cells (oc o f l c p i) 32 (0, 0)) → V.cell? ⟨x, 15, none⟩ = some (.int .i64 o.bits) := fun V hV => by simp [World.cell?, hV, oc]
  have ka16 : ∀ V : World, V.heap[x]? = some (.cells (oc o f l c p i) 32 (0, 0)) → V.cell? ⟨x, 16, none⟩ = some (.string o.sel) := fun V hV => by simp [World.cell?, hV, oc]
  have ka17 : ∀ V : World, V.heap[x]? = some (.cells (oc o f l c p i) 32 (0, 0)) → V.cell? ⟨x, 17, none⟩ = some (.string o.about) := fun V hV => by simp [World.cell?, hV, oc]
  have ka18 : ∀ V : World, V.heap[x]? = some (.cells (oc o f l c p i) 32 (0, 0)) → V.cell? ⟨x, 18, none⟩ = some (.string o.reason) := fun V hV => by simp [World.cell?, hV, oc]
  have R1 := Lib.hid (hr.below b1)
  have HSZ := Lib.hid hs
  have HK := Lib.hid (show 1 ≤ o.kind ∧ o.kind ≤ 4 from ⟨by have := of_decide_eq_false h0; omega, by have := of_decide_eq_false h1; omega⟩)
  have hS : CodP.shape o = false := by
    rw [shape_parts]
    have e := h7
    rw [e]; simp only [Bool.false_and, Bool.and_false]
  have HS := Lib.hid hS
  clear hS
  have H2 := Lib.hid h2
  clear h2
  have H3 := Lib.hid h3
  clear h3
  have H4 := Lib.hid h4
  clear h4
  have H5 := Lib.hid h5
  clear h5
  have H6 := Lib.hid h6
  clear h6
  have H7 := Lib.hid h7
  clear h7
  have HW := Lib.hid hw1
  have B1 := Lib.hid b1
  have P1 := Lib.hid p1
  clear b1 p1 hw1 hr hs
  go_enter Try.func47, Try.ntmps47
  go_upto_region 1 with (fail)
  rw [← HW.out, ← hx]
  clear hx
  refine wp_region_held_drew (S := fun V => V.heap[x]? = some (.cells (oc o f l c p i) 32 (0, 0)) ∧ Below w1.heap.size w1 V) (by kernel_rfl) ⟨P1.out, ⟨rfl, rfl, rfl, Nat.le_refl _, fun _ _ => rfl⟩⟩ (fun hS0 => ?_)
  refine tk 0 5 (.pointer (some ⟨x, 0, none⟩)) ?_
  try simp only [s1, s2, s3]
  refine tk 1 6 (.int .i64 o.kind) ?_ (hv := by (intro V hV; have hc := ka0 V hV.1; clear hV; go_simp; try rfl))
  try simp only [s1, s2, s3]
  refine tk 2 7 (.bool false) ?_
  try simp only [s1, s2, s3]
  refine tk 3 8 (.bool false) ?_
  try simp only [s1, s2, s3]
  refine tk 4 9 (.pointer (some ⟨x, 0, none⟩)) ?_
  try simp only [s1, s2, s3]
  refine tk 5 10 (.int .i64 o.kind) ?_ (hv := by (intro V hV; have hc := ka0 V hV.1; clear hV; go_simp; try rfl))
  try simp only [s1, s2, s3]
  refine tk 6 11 (.bool false) ?_
  try simp only [s1, s2, s3]
  refine tk 7 12 (.bool false) ?_
  try simp only [s1, s2, s3]
  refine tk 8 13 (.bool false) ?_
  try simp only [s1, s2, s3]
  refine tk 9 14 (.agg (oc o f l c p i)) ?_ (hv := by exact load_row_yields 32 (.tmp 1) rfl x rfl 32 (oc o f l c p i) (0, 0) _ (fun V hV => hV.1) Try.underlying32 rfl size32)
  try simp only [s1, s2, s3]
  refine tk 10 15 (.agg (oc o f l c p i)) ?_ (hv := by exact load_row_yields 32 (.tmp 1) rfl x rfl 32 (oc o f l c p i) (0, 0) _ (fun V hV => hV.1) Try.underlying32 rfl size32)
  try simp only [s1, s2, s3]
  refine wpAnyH_ready (rs := [11]) (by kernel_rfl) (by simp) ?_
  refine AllReadyH.cons rfl (fun K hK => ?_) ?_
  · rw [if_pos (by rfl)]
    go_simp
    go_at_call 81
    refine (only_any o f l c p i HK.out _ (R1.out.below (And.right ‹_ ∧ _›))).mono ?_
    rintro e wO ⟨f', l', c', p', i', rfl, hro, hbO⟩
    dsimp only
    refine hK.out _ _ (keepX lw.out (by assumption) hbO) (fun hHeld => ?_)
    clear hK K
    try simp only [Act.put, s1, s2, s3]
    refine wpAnyH_ready (rs := [12]) (by kernel_rfl) (by simp) ?_
    refine AllReadyH.cons rfl (fun K hK => ?_) ?_
    · rw [if_pos (by rfl)]
      go_simp
      go_at_call 18
      refine (same14_any o (onlyO o) f l c p i f' l' c' p' i' HSZ.out wO (R1.out.below hHeld.2) hro).mono ?_
      rw [only_same o HK.out, H2.out]
      rintro e wS ⟨rfl, hbS⟩
      dsimp only
      refine hK.out _ _ (keepX lw.out (by assumption) hbS) (fun hHeld => ?_)
      clear hK K
      try simp only [Act.put, s1, s2, s3]
      refine tk 13 18 (.bool false) ?_
      try simp only [s1, s2, s3]
      refine tk 14 19 (.bool false) ?_
      try simp only [s1, s2, s3]
      refine tk 15 20 (.bool false) ?_
      try simp only [s1, s2, s3]
      refine tk 16 21 (.pointer (some ⟨x, 2, none⟩)) ?_
      try simp only [s1, s2, s3]
      refine tk 17 22 (.int .i64 o.uid) ?_ (hv := by (intro V hV; have hc := ka2 V hV.1; clear hV; go_simp; try rfl))
      try simp only [s1, s2, s3]
      refine wpAnyH_ready (rs := [18]) (by kernel_rfl) (by simp) ?_
      refine AllReadyH.cons rfl (fun K hK => ?_) ?_
      · rw [if_pos (by rfl)]
        go_simp
        go_at_call 57
        refine (in_any o.uid 1099511627776 true H3.out _).mono ?_
        rintro e v3 ⟨rfl, hv3⟩
        have hw3 := hv3.symm
        clear hv3
        subst hw3
        dsimp only
        refine hK.out _ _ (by assumption) (fun hHeld => ?_)
        clear hK K
        try simp only [Act.put, s1, s2, s3]
        refine tk 19 24 (.bool false) ?_
        try simp only [s1, s2, s3]
        refine tk 20 25 (.bool false) ?_
        try simp only [s1, s2, s3]
        refine tk 21 26 (.bool false) ?_
        try simp only [s1, s2, s3]
        refine tk 22 27 (.pointer (some ⟨x, 3, none⟩)) ?_
        try simp only [s1, s2, s3]
        refine tk 23 28 (.int .i64 o.version) ?_ (hv := by (intro V hV; have hc := ka3 V hV.1; clear hV; go_simp; try rfl))
        try simp only [s1, s2, s3]
        refine wpAnyH_ready (rs := [24]) (by kernel_rfl) (by simp) ?_
        refine AllReadyH.cons rfl (fun K hK => ?_) ?_
        · rw [if_pos (by rfl)]
          go_simp
          go_at_call 57
          refine (in_any o.version 1099511627776 true H4.out _).mono ?_
          rintro e v4 ⟨rfl, hv4⟩
          have hw4 := hv4.symm
          clear hv4
          subst hw4
          dsimp only
          refine hK.out _ _ (by assumption) (fun hHeld => ?_)
          clear hK K
          try simp only [Act.put, s1, s2, s3]
          refine tk 25 30 (.bool false) ?_
          try simp only [s1, s2, s3]
          refine tk 26 31 (.bool false) ?_
          try simp only [s1, s2, s3]
          refine tk 27 32 (.bool false) ?_
          try simp only [s1, s2, s3]
          refine tk 28 33 (.pointer (some ⟨x, 9, none⟩)) ?_
          try simp only [s1, s2, s3]
          refine tk 29 34 (.int .i64 o.type) ?_ (hv := by (intro V hV; have hc := ka9 V hV.1; clear hV; go_simp; try rfl))
          try simp only [s1, s2, s3]
          refine wpAnyH_ready (rs := [30]) (by kernel_rfl) (by simp) ?_
          refine AllReadyH.cons rfl (fun K hK => ?_) ?_
          · rw [if_pos (by rfl)]
            go_simp
            go_at_call 57
            refine (in_any o.type 255 true H5.out _).mono ?_
            rintro e v5 ⟨rfl, hv5⟩
            have hw5 := hv5.symm
            clear hv5
            subst hw5
            dsimp only
            refine hK.out _ _ (by assumption) (fun hHeld => ?_)
            clear hK K
            try simp only [Act.put, s1, s2, s3]
            refine tk 31 36 (.bool false) ?_
            try simp only [s1, s2, s3]
            refine tk 32 37 (.bool false) ?_
            try simp only [s1, s2, s3]
            refine tk 33 38 (.bool false) ?_
            try simp only [s1, s2, s3]
            refine tk 34 39 (.pointer (some ⟨x, 10, none⟩)) ?_
            try simp only [s1, s2, s3]
            refine tk 35 40 (.int .i64 o.policy) ?_ (hv := by (intro V hV; have hc := ka10 V hV.1; clear hV; go_simp; try rfl))
            try simp only [s1, s2, s3]
            refine wpAnyH_ready (rs := [36]) (by kernel_rfl) (by simp) ?_
            refine AllReadyH.cons rfl (fun K hK => ?_) ?_
            · rw [if_pos (by rfl)]
              go_simp
              go_at_call 57
              refine (in_any o.policy 255 true H6.out _).mono ?_
              rintro e v6 ⟨rfl, hv6⟩
              have hw6 := hv6.symm
              clear hv6
              subst hw6
              dsimp only
              refine hK.out _ _ (by assumption) (fun hHeld => ?_)
              clear hK K
              try simp only [Act.put, s1, s2, s3]
              refine tk 37 42 (.bool false) ?_
              try simp only [s1, s2, s3]
              refine tk 38 43 (.bool false) ?_
              try simp only [s1, s2, s3]
              refine tk 39 44 (.bool false) ?_
              try simp only [s1, s2, s3]
              refine tk 40 45 (.pointer (some ⟨x, 15, none⟩)) ?_
              try simp only [s1, s2, s3]
              refine tk 41 46 (.int .i64 o.bits) ?_ (hv := by (intro V hV; have hc := ka15 V hV.1; clear hV; go_simp; try rfl))
              try simp only [s1, s2, s3]
              refine wpAnyH_ready (rs := [42]) (by kernel_rfl) (by simp) ?_
              refine AllReadyH.cons rfl (fun K hK => ?_) ?_
              · rw [if_pos (by rfl)]
                go_simp
                go_at_call 57
                refine (in_any o.bits 255 false H7.out _).mono ?_
                rintro e v7 ⟨rfl, hv7⟩
                have hw7 := hv7.symm
                clear hv7
                subst hw7
                dsimp only
                refine hK.out _ _ (by assumption) (fun hHeld => ?_)
                clear hK K
                try simp only [Act.put, s1, s2, s3]
                refine tk 43 48 (.bool true) ?_
                try simp only [s1, s2, s3]
                refine tk 44 49 (.bool true) ?_
                try simp only [s1, s2, s3]
                refine tk 45 50 (.bool true) ?_
                try simp only [s1, s2, s3]
                refine ts 46 51 ?_
                try simp only [s1, s2, s3]
                refine ts 47 52 ?_
                try simp only [s1, s2, s3]
                refine ts 48 53 ?_
                try simp only [s1, s2, s3]
                refine ts 49 54 ?_
                try simp only [s1, s2, s3]
                refine tk 50 55 (.bool true) ?_
                try simp only [s1, s2, s3]
                refine tk 51 56 (.bool true) ?_
                try simp only [s1, s2, s3]
                refine ts 52 57 ?_
                try simp only [s1, s2, s3]
                refine ts 53 58 ?_
                try simp only [s1, s2, s3]
                refine ts 54 59 ?_
                try simp only [s1, s2, s3]
                refine ts 55 60 ?_
                try simp only [s1, s2, s3]
                refine tk 56 61 (.bool true) ?_
                try simp only [s1, s2, s3]
                refine wpAnyH_done (by kernel_rfl) ?_ _
                have HE := Lib.hid hHeld
                go_wp2
                go_ret
                exact ⟨by rw [HS.out]; rfl, B1.out.trans (belowLe B1.out.size HE.out.2)⟩
              exact AllReadyH.nil
            exact AllReadyH.nil
          exact AllReadyH.nil
        exact AllReadyH.nil
      exact AllReadyH.nil
    exact AllReadyH.nil
  exact AllReadyH.nil
set_option maxRecDepth 100000 in
set_option maxHeartbeats 4000000 in
theorem rshape_8 (o : Ob) (f l c p i : Sl) (hs : o.fins.length ≤ 1000000 ∧ o.labels.length ≤ 1000000 ∧ o.cidrs.length ≤ 1000000 ∧ o.fams.length ≤ 1000000 ∧ o.ips.length ≤ 1000000) (h0 : decide (o.kind < 1) = false) (h1 : decide (4 < o.kind) = false) (h2 : only o = true) (h3 : inR o.uid 1099511627776 = true) (h4 : inR o.version 1099511627776 = true) (h5 : inR o.type 255 = true) (h6 : inR o.policy 255 = true) (h7 : inR o.bits 255 = true) (h8 : decide ((8 : Int) < (o.fams.length : Int)) = true) (w : World) (hr : RowsR w o f l c p i) :
    Calls Try.prog 47 #[.agg (oc o f l c p i)] w fun e w' => e = .returned (.bool (CodP.shape o)) ∧ Below w.heap.size w w' := by
  obtain ⟨w1, hw1, b1, p1⟩ := box_one w (oc o f l c p i) 32
  obtain ⟨x, hx⟩ : ∃ x, x = w.heap.size := ⟨_, rfl⟩
  have lw := Lib.hid (show x < w1.heap.size by rw [hx]; exact (Array.getElem?_eq_some_iff.1 p1).1)
  rw [← hx] at p1
  have ka0 : ∀ V : World, V.heap[x]? = some (.cells (oc o f l c p i) 32 (0, 0)) → V.cell? ⟨x, 0, none⟩ = some (.int .i64 o.kind) := fun V hV => by simp [World.cell?, hV, oc]
  have ka1 : ∀ V : World, V.heap[x]? = some (.cells (oc o f l c p i) 32 (0, 0)) → V.cell? ⟨x, 1, none⟩ = some (.string o.name) := fun V hV => by simp [World.cell?, hV, oc]
  have ka2 : ∀ V : World, V.heap[x]? = some (.cells (oc o f l c p i) 32 (0, 0)) → V.cell? ⟨x, 2, none⟩ = some (.int .i64 o.uid) := fun V hV => by simp [World.cell?, hV, oc]
  have ka3 : ∀ V : World, V.heap[x]? = some (.cells (oc o f l c p i) 32 (0, 0)) → V.cell? ⟨x, 3, none⟩ = some (.int .i64 o.version) := fun V hV => by simp [World.cell?, hV, oc]
  have ka4 : ∀ V : World, V.heap[x]? = some (.cells (oc o f l c p i) 32 (0, 0)) → V.cell? ⟨x, 4, none⟩ = some (.bool o.deleting) := fun V hV => by simp [World.cell?, hV, oc]
  have ka5 : ∀ V : World, V.heap[x]? = some (.cells (oc o f l c p i) 32 (0, 0)) → V.cell? ⟨x, 5, none⟩ = some (.slice f.A o.fins.length f.c) := fun V hV => by simp [World.cell?, hV, oc]
  have ka6 : ∀ V : World, V.heap[x]? = some (.cells (oc o f l c p i) 32 (0, 0)) → V.cell? ⟨x, 6, none⟩ = some (.slice l.A o.labels.length l.c) := fun V hV => by simp [World.cell?, hV, oc]
  have ka7 : ∀ V : World, V.heap[x]? = some (.cells (oc o f l c p i) 32 (0, 0)) → V.cell? ⟨x, 7, none⟩ = some (.slice c.A o.cidrs.length c.c) := fun V hV => by simp [World.cell?, hV, oc]
  have ka8 : ∀ V : World, V.heap[x]? = some (.cells (oc o f l c p i) 32 (0, 0)) → V.cell? ⟨x, 8, none⟩ = some (.string o.status) := fun V hV => by simp [World.cell?, hV, oc]
  have ka9 : ∀ V : World, V.heap[x]? = some (.cells (oc o f l c p i) 32 (0, 0)) → V.cell? ⟨x, 9, none⟩ = some (.int .i64 o.type) := fun V hV => by simp [World.cell?, hV, oc]
  have ka10 : ∀ V : World, V.heap[x]? = some (.cells (oc o f l c p i) 32 (0, 0)) → V.cell? ⟨x, 10, none⟩ = some (.int .i64 o.policy) := fun V hV => by simp [World.cell?, hV, oc]
  have ka11 : ∀ V : World, V.heap[x]? = some (.cells (oc o f l c p i) 32 (0, 0)) → V.cell? ⟨x, 11, none⟩ = some (.slice p.A o.fams.length p.c) := fun V hV => by simp [World.cell?, hV, oc]
  have ka12 : ∀ V : World, V.heap[x]? = some (.cells (oc o f l c p i) 32 (0, 0)) → V.cell? ⟨x, 12, none⟩ = some (.slice i.A o.ips.length i.c) := fun V hV => by simp [World.cell?, hV, oc]
  have ka13 : ∀ V : World, V.heap[x]? = some (.cells (oc o f l c p i) 32 (0, 0)) → V.cell? ⟨x, 13, none⟩ = some (.string o.v4) := fun V hV => by simp [World.cell?, hV, oc]
  have ka14 : ∀ V : World, V.heap[x]? = some (.cells (oc o f l c p i) 32 (0, 0)) → V.cell? ⟨x, 14, none⟩ = some (.string o.v6) := fun V hV => by simp [World.cell?, hV, oc]
  have ka15 : ∀ V : World, V.heap[x]? = some (.cells (oc o f l c p i) 32 (0, 0)) → V.cell? ⟨x, 15, none⟩ = some (.int .i64 o.bits) := fun V hV => by simp [World.cell?, hV, oc]
  have ka16 : ∀ V : World, V.heap[x]? = some (.cells (oc o f l c p i) 32 (0, 0)) → V.cell? ⟨x, 16, none⟩ = some (.string o.sel) := fun V hV => by simp [World.cell?, hV, oc]
  have ka17 : ∀ V : World, V.heap[x]? = some (.cells (oc o f l c p i) 32 (0, 0)) → V.cell? ⟨x, 17, none⟩ = some (.string o.about) := fun V hV => by simp [World.cell?, hV, oc]
  have ka18 : ∀ V : World, V.heap[x]? = some (.cells (oc o f l c p i) 32 (0, 0)) → V.cell? ⟨x, 18, none⟩ = some (.string o.reason) := fun V hV => by simp [World.cell?, hV, oc]
  have R1 := Lib.hid (hr.below b1)
  have HSZ := Lib.hid hs
  have HK := Lib.hid (show 1 ≤ o.kind ∧ o.kind ≤ 4 from ⟨by have := of_decide_eq_false h0; omega, by have := of_decide_eq_false h1; omega⟩)
  have hS : CodP.shape o = false := by
    rw [shape_parts]
    have e : decide (o.fams.length ≤ 8) = false := decide_eq_false (by have := of_decide_eq_true h8; omega)
    rw [e]; simp only [Bool.false_and, Bool.and_false]
  have HS := Lib.hid hS
  clear hS
  have H2 := Lib.hid h2
  clear h2
  have H3 := Lib.hid h3
  clear h3
  have H4 := Lib.hid h4
  clear h4
  have H5 := Lib.hid h5
  clear h5
  have H6 := Lib.hid h6
  clear h6
  have H7 := Lib.hid h7
  clear h7
  have HW := Lib.hid hw1
  have B1 := Lib.hid b1
  have P1 := Lib.hid p1
  clear b1 p1 hw1 hr hs
  go_enter Try.func47, Try.ntmps47
  go_upto_region 1 with (fail)
  rw [← HW.out, ← hx]
  clear hx
  refine wp_region_held_drew (S := fun V => V.heap[x]? = some (.cells (oc o f l c p i) 32 (0, 0)) ∧ Below w1.heap.size w1 V) (by kernel_rfl) ⟨P1.out, ⟨rfl, rfl, rfl, Nat.le_refl _, fun _ _ => rfl⟩⟩ (fun hS0 => ?_)
  refine tk 0 5 (.pointer (some ⟨x, 0, none⟩)) ?_
  try simp only [s1, s2, s3]
  refine tk 1 6 (.int .i64 o.kind) ?_ (hv := by (intro V hV; have hc := ka0 V hV.1; clear hV; go_simp; try rfl))
  try simp only [s1, s2, s3]
  refine tk 2 7 (.bool false) ?_
  try simp only [s1, s2, s3]
  refine tk 3 8 (.bool false) ?_
  try simp only [s1, s2, s3]
  refine tk 4 9 (.pointer (some ⟨x, 0, none⟩)) ?_
  try simp only [s1, s2, s3]
  refine tk 5 10 (.int .i64 o.kind) ?_ (hv := by (intro V hV; have hc := ka0 V hV.1; clear hV; go_simp; try rfl))
  try simp only [s1, s2, s3]
  refine tk 6 11 (.bool false) ?_
  try simp only [s1, s2, s3]
  refine tk 7 12 (.bool false) ?_
  try simp only [s1, s2, s3]
  refine tk 8 13 (.bool false) ?_
  try simp only [s1, s2, s3]
  refine tk 9 14 (.agg (oc o f l c p i)) ?_ (hv := by exact load_row_yields 32 (.tmp 1) rfl x rfl 32 (oc o f l c p i) (0, 0) _ (fun V hV => hV.1) Try.underlying32 rfl size32)
  try simp only [s1, s2, s3]
  refine tk 10 15 (.agg (oc o f l c p i)) ?_ (hv := by exact load_row_yields 32 (.tmp 1) rfl x rfl 32 (oc o f l c p i) (0, 0) _ (fun V hV => hV.1) Try.underlying32 rfl size32)
  try simp only [s1, s2, s3]
  refine wpAnyH_ready (rs := [11]) (by kernel_rfl) (by simp) ?_
  refine AllReadyH.cons rfl (fun K hK => ?_) ?_
  · rw [if_pos (by rfl)]
    go_simp
    go_at_call 81
    refine (only_any o f l c p i HK.out _ (R1.out.below (And.right ‹_ ∧ _›))).mono ?_
    rintro e wO ⟨f', l', c', p', i', rfl, hro, hbO⟩
    dsimp only
    refine hK.out _ _ (keepX lw.out (by assumption) hbO) (fun hHeld => ?_)
    clear hK K
    try simp only [Act.put, s1, s2, s3]
    refine wpAnyH_ready (rs := [12]) (by kernel_rfl) (by simp) ?_
    refine AllReadyH.cons rfl (fun K hK => ?_) ?_
    · rw [if_pos (by rfl)]
      go_simp
      go_at_call 18
      refine (same14_any o (onlyO o) f l c p i f' l' c' p' i' HSZ.out wO (R1.out.below hHeld.2) hro).mono ?_
      rw [only_same o HK.out, H2.out]
      rintro e wS ⟨rfl, hbS⟩
      dsimp only
      refine hK.out _ _ (keepX lw.out (by assumption) hbS) (fun hHeld => ?_)
      clear hK K
      try simp only [Act.put, s1, s2, s3]
      refine tk 13 18 (.bool false) ?_
      try simp only [s1, s2, s3]
      refine tk 14 19 (.bool false) ?_
      try simp only [s1, s2, s3]
      refine tk 15 20 (.bool false) ?_
      try simp only [s1, s2, s3]
      refine tk 16 21 (.pointer (some ⟨x, 2, none⟩)) ?_
      try simp only [s1, s2, s3]
      refine tk 17 22 (.int .i64 o.uid) ?_ (hv := by (intro V hV; have hc := ka2 V hV.1; clear hV; go_simp; try rfl))
      try simp only [s1, s2, s3]
      refine wpAnyH_ready (rs := [18]) (by kernel_rfl) (by simp) ?_
      refine AllReadyH.cons rfl (fun K hK => ?_) ?_
      · rw [if_pos (by rfl)]
        go_simp
        go_at_call 57
        refine (in_any o.uid 1099511627776 true H3.out _).mono ?_
        rintro e v3 ⟨rfl, hv3⟩
        have hw3 := hv3.symm
        clear hv3
        subst hw3
        dsimp only
        refine hK.out _ _ (by assumption) (fun hHeld => ?_)
        clear hK K
        try simp only [Act.put, s1, s2, s3]
        refine tk 19 24 (.bool false) ?_
        try simp only [s1, s2, s3]
        refine tk 20 25 (.bool false) ?_
        try simp only [s1, s2, s3]
        refine tk 21 26 (.bool false) ?_
        try simp only [s1, s2, s3]
        refine tk 22 27 (.pointer (some ⟨x, 3, none⟩)) ?_
        try simp only [s1, s2, s3]
        refine tk 23 28 (.int .i64 o.version) ?_ (hv := by (intro V hV; have hc := ka3 V hV.1; clear hV; go_simp; try rfl))
        try simp only [s1, s2, s3]
        refine wpAnyH_ready (rs := [24]) (by kernel_rfl) (by simp) ?_
        refine AllReadyH.cons rfl (fun K hK => ?_) ?_
        · rw [if_pos (by rfl)]
          go_simp
          go_at_call 57
          refine (in_any o.version 1099511627776 true H4.out _).mono ?_
          rintro e v4 ⟨rfl, hv4⟩
          have hw4 := hv4.symm
          clear hv4
          subst hw4
          dsimp only
          refine hK.out _ _ (by assumption) (fun hHeld => ?_)
          clear hK K
          try simp only [Act.put, s1, s2, s3]
          refine tk 25 30 (.bool false) ?_
          try simp only [s1, s2, s3]
          refine tk 26 31 (.bool false) ?_
          try simp only [s1, s2, s3]
          refine tk 27 32 (.bool false) ?_
          try simp only [s1, s2, s3]
          refine tk 28 33 (.pointer (some ⟨x, 9, none⟩)) ?_
          try simp only [s1, s2, s3]
          refine tk 29 34 (.int .i64 o.type) ?_ (hv := by (intro V hV; have hc := ka9 V hV.1; clear hV; go_simp; try rfl))
          try simp only [s1, s2, s3]
          refine wpAnyH_ready (rs := [30]) (by kernel_rfl) (by simp) ?_
          refine AllReadyH.cons rfl (fun K hK => ?_) ?_
          · rw [if_pos (by rfl)]
            go_simp
            go_at_call 57
            refine (in_any o.type 255 true H5.out _).mono ?_
            rintro e v5 ⟨rfl, hv5⟩
            have hw5 := hv5.symm
            clear hv5
            subst hw5
            dsimp only
            refine hK.out _ _ (by assumption) (fun hHeld => ?_)
            clear hK K
            try simp only [Act.put, s1, s2, s3]
            refine tk 31 36 (.bool false) ?_
            try simp only [s1, s2, s3]
            refine tk 32 37 (.bool false) ?_
            try simp only [s1, s2, s3]
            refine tk 33 38 (.bool false) ?_
            try simp only [s1, s2, s3]
            refine tk 34 39 (.pointer (some ⟨x, 10, none⟩)) ?_
            try simp only [s1, s2, s3]
            refine tk 35 40 (.int .i64 o.policy) ?_ (hv := by (intro V hV; have hc := ka10 V hV.1; clear hV; go_simp; try rfl))
            try simp only [s1, s2, s3]
            refine wpAnyH_ready (rs := [36]) (by kernel_rfl) (by simp) ?_
            refine AllReadyH.cons rfl (fun K hK => ?_) ?_
            · rw [if_pos (by rfl)]
              go_simp
              go_at_call 57
              refine (in_any o.policy 255 true H6.out _).mono ?_
              rintro e v6 ⟨rfl, hv6⟩
              have hw6 := hv6.symm
              clear hv6
              subst hw6
              dsimp only
              refine hK.out _ _ (by assumption) (fun hHeld => ?_)
              clear hK K
              try simp only [Act.put, s1, s2, s3]
              refine tk 37 42 (.bool false) ?_
              try simp only [s1, s2, s3]
              refine tk 38 43 (.bool false) ?_
              try simp only [s1, s2, s3]
              refine tk 39 44 (.bool false) ?_
              try simp only [s1, s2, s3]
              refine tk 40 45 (.pointer (some ⟨x, 15, none⟩)) ?_
              try simp only [s1, s2, s3]
              refine tk 41 46 (.int .i64 o.bits) ?_ (hv := by (intro V hV; have hc := ka15 V hV.1; clear hV; go_simp; try rfl))
              try simp only [s1, s2, s3]
              refine wpAnyH_ready (rs := [42]) (by kernel_rfl) (by simp) ?_
              refine AllReadyH.cons rfl (fun K hK => ?_) ?_
              · rw [if_pos (by rfl)]
                go_simp
                go_at_call 57
                refine (in_any o.bits 255 true H7.out _).mono ?_
                rintro e v7 ⟨rfl, hv7⟩
                have hw7 := hv7.symm
                clear hv7
                subst hw7
                dsimp only
                refine hK.out _ _ (by assumption) (fun hHeld => ?_)
                clear hK K
                try simp only [Act.put, s1, s2, s3]
                refine tk 43 48 (.bool false) ?_
                try simp only [s1, s2, s3]
                refine tk 44 49 (.bool false) ?_
                try simp only [s1, s2, s3]
                refine tk 45 50 (.bool false) ?_
                try simp only [s1, s2, s3]
                refine tk 46 51 (.pointer (some ⟨x, 11, none⟩)) ?_
                try simp only [s1, s2, s3]
                refine tk 47 52 (.slice p.A o.fams.length p.c) ?_ (hv := by (intro V hV; have hc := ka11 V hV.1; clear hV; go_simp; try rfl))
                try simp only [s1, s2, s3]
                refine tk 48 53 (.int .i64 (o.fams.length : Nat)) ?_
                try simp only [s1, s2, s3]
                refine tk 49 54 (.bool true) ?_
                try simp only [s1, s2, s3]
                refine tk 50 55 (.bool true) ?_
                try simp only [s1, s2, s3]
                refine tk 51 56 (.bool true) ?_
                try simp only [s1, s2, s3]
                refine ts 52 57 ?_
                try simp only [s1, s2, s3]
                refine ts 53 58 ?_
                try simp only [s1, s2, s3]
                refine ts 54 59 ?_
                try simp only [s1, s2, s3]
                refine ts 55 60 ?_
                try simp only [s1, s2, s3]
                refine tk 56 61 (.bool true) ?_
                try simp only [s1, s2, s3]
                refine wpAnyH_done (by kernel_rfl) ?_ _
                have HE := Lib.hid hHeld
                go_wp2
                go_ret
                exact ⟨by rw [HS.out]; rfl, B1.out.trans (belowLe B1.out.size HE.out.2)⟩
              exact AllReadyH.nil
            exact AllReadyH.nil
          exact AllReadyH.nil
        exact AllReadyH.nil
      exact AllReadyH.nil
    exact AllReadyH.nil
  exact AllReadyH.nil
set_option maxRecDepth 100000 in
set_option maxHeartbeats 4000000 in
theorem rshape_9 (o : Ob) (f l c p i : Sl) (hs : o.fins.length ≤ 1000000 ∧ o.labels.length ≤ 1000000 ∧ o.cidrs.length ≤ 1000000 ∧ o.fams.length ≤ 1000000 ∧ o.ips.length ≤ 1000000) (h0 : decide (o.kind < 1) = false) (h1 : decide (4 < o.kind) = false) (h2 : only o = true) (h3 : inR o.uid 1099511627776 = true) (h4 : inR o.version 1099511627776 = true) (h5 : inR o.type 255 = true) (h6 : inR o.policy 255 = true) (h7 : inR o.bits 255 = true) (h8 : decide ((8 : Int) < (o.fams.length : Int)) = false) (h9 : decide ((16 : Int) < (o.labels.length : Int)) = true) (w : World) (hr : RowsR w o f l c p i) :
    Calls Try.prog 47 #[.agg (oc o f l c p i)] w fun e w' => e = .returned (.bool (CodP.shape o)) ∧ Below w.heap.size w w' := by
  obtain ⟨w1, hw1, b1, p1⟩ := box_one w (oc o f l c p i) 32
  obtain ⟨x, hx⟩ : ∃ x, x = w.heap.size := ⟨_, rfl⟩
  have lw := Lib.hid (show x < w1.heap.size by rw [hx]; exact (Array.getElem?_eq_some_iff.1 p1).1)
  rw [← hx] at p1
  have ka0 : ∀ V : World, V.heap[x]? = some (.cells (oc o f l c p i) 32 (0, 0)) → V.cell? ⟨x, 0, none⟩ = some (.int .i64 o.kind) := fun V hV => by simp [World.cell?, hV, oc]
  have ka1 : ∀ V : World, V.heap[x]? = some (.cells (oc o f l c p i) 32 (0, 0)) → V.cell? ⟨x, 1, none⟩ = some (.string o.name) := fun V hV => by simp [World.cell?, hV, oc]
  have ka2 : ∀ V : World, V.heap[x]? = some (.cells (oc o f l c p i) 32 (0, 0)) → V.cell? ⟨x, 2, none⟩ = some (.int .i64 o.uid) := fun V hV => by simp [World.cell?, hV, oc]
  have ka3 : ∀ V : World, V.heap[x]? = some (.cells (oc o f l c p i) 32 (0, 0)) → V.cell? ⟨x, 3, none⟩ = some (.int .i64 o.version) := fun V hV => by simp [World.cell?, hV, oc]
  have ka4 : ∀ V : World, V.heap[x]? = some (.cells (oc o f l c p i) 32 (0, 0)) → V.cell? ⟨x, 4, none⟩ = some (.bool o.deleting) := fun V hV => by simp [World.cell?, hV, oc]
  have ka5 : ∀ V : World, V.heap[x]? = some (.cells (oc o f l c p i) 32 (0, 0)) → V.cell? ⟨x, 5, none⟩ = some (.slice f.A o.fins.length f.c) := fun V hV => by simp [World.cell?, hV, oc]
  have ka6 : ∀ V : World, V.heap[x]? = some (.cells (oc o f l c p i) 32 (0, 0)) → V.cell? ⟨x, 6, none⟩ = some (.slice l.A o.labels.length l.c) := fun V hV => by simp [World.cell?, hV, oc]
  have ka7 : ∀ V : World, V.heap[x]? = some (.cells (oc o f l c p i) 32 (0, 0)) → V.cell? ⟨x, 7, none⟩ = some (.slice c.A o.cidrs.length c.c) := fun V hV => by simp [World.cell?, hV, oc]
  have ka8 : ∀ V : World, V.heap[x]? = some (.cells (oc o f l c p i) 32 (0, 0)) → V.cell? ⟨x, 8, none⟩ = some (.string o.status) := fun V hV => by simp [World.cell?, hV, oc]
  have ka9 : ∀ V : World, V.heap[x]? = some (.cells (oc o f l c p i) 32 (0, 0)) → V.cell? ⟨x, 9, none⟩ = some (.int .i64 o.type) := fun V hV => by simp [World.cell?, hV, oc]
  have ka10 : ∀ V : World, V.heap[x]? = some (.cells (oc o f l c p i) 32 (0, 0)) → V.cell? ⟨x, 10, none⟩ = some (.int .i64 o.policy) := fun V hV => by simp [World.cell?, hV, oc]
  have ka11 : ∀ V : World, V.heap[x]? = some (.cells (oc o f l c p i) 32 (0, 0)) → V.cell? ⟨x, 11, none⟩ = some (.slice p.A o.fams.length p.c) := fun V hV => by simp [World.cell?, hV, oc]
  have ka12 : ∀ V : World, V.heap[x]? = some (.cells (oc o f l c p i) 32 (0, 0)) → V.cell? ⟨x, 12, none⟩ = some (.slice i.A o.ips.length i.c) := fun V hV => by simp [World.cell?, hV, oc]
  have ka13 : ∀ V : World, V.heap[x]? = some (.cells (oc o f l c p i) 32 (0, 0)) → V.cell? ⟨x, 13, none⟩ = some (.string o.v4) := fun V hV => by simp [World.cell?, hV, oc]
  have ka14 : ∀ V : World, V.heap[x]? = some (.cells (oc o f l c p i) 32 (0, 0)) → V.cell? ⟨x, 14, none⟩ = some (.string o.v6) := fun V hV => by simp [World.cell?, hV, oc]
  have ka15 : ∀ V : World, V.heap[x]? = some (.cells (oc o f l c p i) 32 (0, 0)) → V.cell? ⟨x, 15, none⟩ = some (.int .i64 o.bits) := fun V hV => by simp [World.cell?, hV, oc]
  have ka16 : ∀ V : World, V.heap[x]? = some (.cells (oc o f l c p i) 32 (0, 0)) → V.cell? ⟨x, 16, none⟩ = some (.string o.sel) := fun V hV => by simp [World.cell?, hV, oc]
  have ka17 : ∀ V : World, V.heap[x]? = some (.cells (oc o f l c p i) 32 (0, 0)) → V.cell? ⟨x, 17, none⟩ = some (.string o.about) := fun V hV => by simp [World.cell?, hV, oc]
  have ka18 : ∀ V : World, V.heap[x]? = some (.cells (oc o f l c p i) 32 (0, 0)) → V.cell? ⟨x, 18, none⟩ = some (.string o.reason) := fun V hV => by simp [World.cell?, hV, oc]
  have R1 := Lib.hid (hr.below b1)
  have HSZ := Lib.hid hs
  have HK := Lib.hid (show 1 ≤ o.kind ∧ o.kind ≤ 4 from ⟨by have := of_decide_eq_false h0; omega, by have := of_decide_eq_false h1; omega⟩)
  have hS : CodP.shape o = false := by
    rw [shape_parts]
    have e : decide (o.labels.length ≤ 16) = false := decide_eq_false (by have := of_decide_eq_true h9; omega)
    rw [e]; simp only [Bool.false_and, Bool.and_false]
  have HS := Lib.hid hS
  clear hS
  have H2 := Lib.hid h2
  clear h2
  have H3 := Lib.hid h3
  clear h3
  have H4 := Lib.hid h4
  clear h4
  have H5 := Lib.hid h5
  clear h5
  have H6 := Lib.hid h6
  clear h6
  have H7 := Lib.hid h7
  clear h7
  have HW := Lib.hid hw1
  have B1 := Lib.hid b1
  have P1 := Lib.hid p1
  clear b1 p1 hw1 hr hs
  go_enter Try.func47, Try.ntmps47
  go_upto_region 1 with (fail)
  rw [← HW.out, ← hx]
  clear hx
  refine wp_region_held_drew (S := fun V => V.heap[x]? = some (.cells (oc o f l c p i) 32 (0, 0)) ∧ Below w1.heap.size w1 V) (by kernel_rfl) ⟨P1.out, ⟨rfl, rfl, rfl, Nat.le_refl _, fun _ _ => rfl⟩⟩ (fun hS0 => ?_)
  refine tk 0 5 (.pointer (some ⟨x, 0, none⟩)) ?_
  try simp only [s1, s2, s3]
  refine tk 1 6 (.int .i64 o.kind) ?_ (hv := by (intro V hV; have hc := ka0 V hV.1; clear hV; go_simp; try rfl))
  try simp only [s1, s2, s3]
  refine tk 2 7 (.bool false) ?_
  try simp only [s1, s2, s3]
  refine tk 3 8 (.bool false) ?_
  try simp only [s1, s2, s3]
  refine tk 4 9 (.pointer (some ⟨x, 0, none⟩)) ?_
  try simp only [s1, s2, s3]
  refine tk 5 10 (.int .i64 o.kind) ?_ (hv := by (intro V hV; have hc := ka0 V hV.1; clear hV; go_simp; try rfl))
  try simp only [s1, s2, s3]
  refine tk 6 11 (.bool false) ?_
  try simp only [s1, s2, s3]
  refine tk 7 12 (.bool false) ?_
  try simp only [s1, s2, s3]
  refine tk 8 13 (.bool false) ?_
  try simp only [s1, s2, s3]
  refine tk 9 14 (.agg (oc o f l c p i)) ?_ (hv := by exact load_row_yields 32 (.tmp 1) rfl x rfl 32 (oc o f l c p i) (0, 0) _ (fun V hV => hV.1) Try.underlying32 rfl size32)
  try simp only [s1, s2, s3]
  refine tk 10 15 (.agg (oc o f l c p i)) ?_ (hv := by exact load_row_yields 32 (.tmp 1) rfl x rfl 32 (oc o f l c p i) (0, 0) _ (fun V hV => hV.1) Try.underlying32 rfl size32)
  try simp only [s1, s2, s3]
  refine wpAnyH_ready (rs := [11]) (by kernel_rfl) (by simp) ?_
  refine AllReadyH.cons rfl (fun K hK => ?_) ?_
  · rw [if_pos (by rfl)]
    go_simp
    go_at_call 81
    refine (only_any o f l c p i HK.out _ (R1.out.below (And.right ‹_ ∧ _›))).mono ?_
    rintro e wO ⟨f', l', c', p', i', rfl, hro, hbO⟩
    dsimp only
    refine hK.out _ _ (keepX lw.out (by assumption) hbO) (fun hHeld => ?_)
    clear hK K
    try simp only [Act.put, s1, s2, s3]
    refine wpAnyH_ready (rs := [12]) (by kernel_rfl) (by simp) ?_
    refine AllReadyH.cons rfl (fun K hK => ?_) ?_
    · rw [if_pos (by rfl)]
      go_simp
      go_at_call 18
      refine (same14_any o (onlyO o) f l c p i f' l' c' p' i' HSZ.out wO (R1.out.below hHeld.2) hro).mono ?_
      rw [only_same o HK.out, H2.out]
      rintro e wS ⟨rfl, hbS⟩
      dsimp only
      refine hK.out _ _ (keepX lw.out (by assumption) hbS) (fun hHeld => ?_)
      clear hK K
      try simp only [Act.put, s1, s2, s3]
      refine tk 13 18 (.bool false) ?_
      try simp only [s1, s2, s3]
      refine tk 14 19 (.bool false) ?_
      try simp only [s1, s2, s3]
      refine tk 15 20 (.bool false) ?_
      try simp only [s1, s2, s3]
      refine tk 16 21 (.pointer (some ⟨x, 2, none⟩)) ?_
      try simp only [s1, s2, s3]
      refine tk 17 22 (.int .i64 o.uid) ?_ (hv := by (intro V hV; have hc := ka2 V hV.1; clear hV; go_simp; try rfl))
      try simp only [s1, s2, s3]
      refine wpAnyH_ready (rs := [18]) (by kernel_rfl) (by simp) ?_
      refine AllReadyH.cons rfl (fun K hK => ?_) ?_
      · rw [if_pos (by rfl)]
        go_simp
        go_at_call 57
        refine (in_any o.uid 1099511627776 true H3.out _).mono ?_
        rintro e v3 ⟨rfl, hv3⟩
        have hw3 := hv3.symm
        clear hv3
        subst hw3
        dsimp only
        refine hK.out _ _ (by assumption) (fun hHeld => ?_)
        clear hK K
        try simp only [Act.put, s1, s2, s3]
        refine tk 19 24 (.bool false) ?_
        try simp only [s1, s2, s3]
        refine tk 20 25 (.bool false) ?_
        try simp only [s1, s2, s3]
        refine tk 21 26 (.bool false) ?_
        try simp only [s1, s2, s3]
        refine tk 22 27 (.pointer (some ⟨x, 3, none⟩)) ?_
        try simp only [s1, s2, s3]
        refine tk 23 28 (.int .i64 o.version) ?_ (hv := by (intro V hV; have hc := ka3 V hV.1; clear hV; go_simp; try rfl))
        try simp only [s1, s2, s3]
        refine wpAnyH_ready (rs := [24]) (by kernel_rfl) (by simp) ?_
        refine AllReadyH.cons rfl (fun K hK => ?_) ?_
        · rw [if_pos (by rfl)]
          go_simp
          go_at_call 57
          refine (in_any o.version 1099511627776 true H4.out _).mono ?_
          rintro e v4 ⟨rfl, hv4⟩
          have hw4 := hv4.symm
          clear hv4
          subst hw4
          dsimp only
          refine hK.out _ _ (by assumption) (fun hHeld => ?_)
          clear hK K
          try simp only [Act.put, s1, s2, s3]
          refine tk 25 30 (.bool false) ?_
          try simp only [s1, s2, s3]
          refine tk 26 31 (.bool false) ?_
          try simp only [s1, s2, s3]
          refine tk 27 32 (.bool false) ?_
          try simp only [s1, s2, s3]
          refine tk 28 33 (.pointer (some ⟨x, 9, none⟩)) ?_
          try simp only [s1, s2, s3]
          refine tk 29 34 (.int .i64 o.type) ?_ (hv := by (intro V hV; have hc := ka9 V hV.1; clear hV; go_simp; try rfl))
          try simp only [s1, s2, s3]
          refine wpAnyH_ready (rs := [30]) (by kernel_rfl) (by simp) ?_
          refine AllReadyH.cons rfl (fun K hK => ?_) ?_
          · rw [if_pos (by rfl)]
            go_simp
            go_at_call 57
            refine (in_any o.type 255 true H5.out _).mono ?_
            rintro e v5 ⟨rfl, hv5⟩
            have hw5 := hv5.symm
            clear hv5
            subst hw5
            dsimp only
            refine hK.out _ _ (by assumption) (fun hHeld => ?_)
            clear hK K
            try simp only [Act.put, s1, s2, s3]
            refine tk 31 36 (.bool false) ?_
            try simp only [s1, s2, s3]
            refine tk 32 37 (.bool false) ?_
            try simp only [s1, s2, s3]
            refine tk 33 38 (.bool false) ?_
            try simp only [s1, s2, s3]
            refine tk 34 39 (.pointer (some ⟨x, 10, none⟩)) ?_
            try simp only [s1, s2, s3]
            refine tk 35 40 (.int .i64 o.policy) ?_ (hv := by (intro V hV; have hc := ka10 V hV.1; clear hV; go_simp; try rfl))
            try simp only [s1, s2, s3]
            refine wpAnyH_ready (rs := [36]) (by kernel_rfl) (by simp) ?_
            refine AllReadyH.cons rfl (fun K hK => ?_) ?_
            · rw [if_pos (by rfl)]
              go_simp
              go_at_call 57
              refine (in_any o.policy 255 true H6.out _).mono ?_
              rintro e v6 ⟨rfl, hv6⟩
              have hw6 := hv6.symm
              clear hv6
              subst hw6
              dsimp only
              refine hK.out _ _ (by assumption) (fun hHeld => ?_)
              clear hK K
              try simp only [Act.put, s1, s2, s3]
              refine tk 37 42 (.bool false) ?_
              try simp only [s1, s2, s3]
              refine tk 38 43 (.bool false) ?_
              try simp only [s1, s2, s3]
              refine tk 39 44 (.bool false) ?_
              try simp only [s1, s2, s3]
              refine tk 40 45 (.pointer (some ⟨x, 15, none⟩)) ?_
              try simp only [s1, s2, s3]
              refine tk 41 46 (.int .i64 o.bits) ?_ (hv := by (intro V hV; have hc := ka15 V hV.1; clear hV; go_simp; try rfl))
              try simp only [s1, s2, s3]
              refine wpAnyH_ready (rs := [42]) (by kernel_rfl) (by simp) ?_
              refine AllReadyH.cons rfl (fun K hK => ?_) ?_
              · rw [if_pos (by rfl)]
                go_simp
                go_at_call 57
                refine (in_any o.bits 255 true H7.out _).mono ?_
                rintro e v7 ⟨rfl, hv7⟩
                have hw7 := hv7.symm
                clear hv7
                subst hw7
                dsimp only
                refine hK.out _ _ (by assumption) (fun hHeld => ?_)
                clear hK K
                try simp only [Act.put, s1, s2, s3]
                refine tk 43 48 (.bool false) ?_
                try simp only [s1, s2, s3]
                refine tk 44 49 (.bool false) ?_
                try simp only [s1, s2, s3]
                refine tk 45 50 (.bool false) ?_
                try simp only [s1, s2, s3]
                refine tk 46 51 (.pointer (some ⟨x, 11, none⟩)) ?_
                try simp only [s1, s2, s3]
                refine tk 47 52 (.slice p.A o.fams.length p.c) ?_ (hv := by (intro V hV; have hc := ka11 V hV.1; clear hV; go_simp; try rfl))
                try simp only [s1, s2, s3]
                refine tk 48 53 (.int .i64 (o.fams.length : Nat)) ?_
                try simp only [s1, s2, s3]
                refine tk 49 54 (.bool false) ?_
                try simp only [s1, s2, s3]
                refine tk 50 55 (.bool false) ?_
                try simp only [s1, s2, s3]
                refine tk 51 56 (.bool false) ?_
                try simp only [s1, s2, s3]
                refine tk 52 57 (.pointer (some ⟨x, 6, none⟩)) ?_
                try simp only [s1, s2, s3]
                refine tk 53 58 (.slice l.A o.labels.length l.c) ?_ (hv := by (intro V hV; have hc := ka6 V hV.1; clear hV; go_simp; try rfl))
                try simp only [s1, s2, s3]
                refine tk 54 59 (.int .i64 (o.labels.length : Nat)) ?_
                try simp only [s1, s2, s3]
                refine tk 55 60 (.bool true) ?_
                try simp only [s1, s2, s3]
                refine tk 56 61 (.bool true) ?_
                try simp only [s1, s2, s3]
                refine wpAnyH_done (by kernel_rfl) ?_ _
                have HE := Lib.hid hHeld
                go_wp2
                go_ret
                exact ⟨by rw [HS.out]; rfl, B1.out.trans (belowLe B1.out.size HE.out.2)⟩
              exact AllReadyH.nil
            exact AllReadyH.nil
          exact AllReadyH.nil
        exact AllReadyH.nil
      exact AllReadyH.nil
    exact AllReadyH.nil
  exact AllReadyH.nil
end Go.Proofs.Ytolndeolehkjoaa
