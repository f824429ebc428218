/- Objects held against each other. -/
import Derived.Test.YtmbmnldheilffaaMo3
namespace Go.Proofs.Ytmbmnldheilffaa
set_option linter.unusedVariables false
set_option linter.unusedSimpArgs false
open Go.RowKit
structure RowsR (w : World) (o : Ob) (f l c p i : Sl) : Prop where
  fr : RowR w f.A (o.fins.flatMap cS)
  lr : RowR w l.A (o.labels.flatMap cP)
  cr : RowR w c.A (o.cidrs.flatMap cS)
  pr : RowR w p.A (o.fams.flatMap cI)
  ir : RowR w i.A (o.ips.flatMap cS)
theorem RowsR.below {w w1 : World} {o : Ob} {f l c p i : Sl} (h : RowsR w o f l c p i) (hb : Below w.heap.size w w1) : RowsR w1 o f l c p i :=
  ⟨h.fr.below hb, h.lr.below hb, h.cr.below hb, h.pr.below hb, h.ir.below hb⟩
theorem RowsR.of_owns {w : World} {B : Nat} {o : Ob} {f l c p i : Sl} (h : ObOwn w B o f l c p i) : RowsR w o f l c p i := by
  have key : ∀ {e size n : Nat} {A : Option Addr} {m : Nat} {cs : List Value}, w.ownsRow B e size (.slice A n m) n cs → RowR w A cs := fun {e size n A m cs} h j u hj => by
    obtain ⟨_, A', c', hv, _, _, hc⟩ := G.HasRow.of_owns h
    injection hv with h1 h2 h3
    subst h1
    exact hc j u hj
  exact ⟨key h.fr, key h.lr, key h.cr, key h.pr, key h.ir⟩
def sameB (a b : Ob) : Bool := flatB a b && (decide (a.fins = b.fins) && (decide (a.labels = b.labels) && (decide (a.cidrs = b.cidrs) && (decide (a.fams = b.fams) && decide (a.ips = b.ips)))))
theorem keepS {w1 V V' : World} {x y : Nat} {A B : Obj} (hl : x < w1.heap.size ∧ y < w1.heap.size) (h : V.heap[x]? = some A ∧ V.heap[y]? = some B ∧ Below w1.heap.size w1 V) (hb : Below V.heap.size V V') : V'.heap[x]? = some A ∧ V'.heap[y]? = some B ∧ Below w1.heap.size w1 V' :=
  ⟨(hb.block x (Nat.lt_of_lt_of_le hl.1 h.2.2.size)).trans h.1, (hb.block y (Nat.lt_of_lt_of_le hl.2 h.2.2.size)).trans h.2.1, G.bthen h.2.2 hb⟩
theorem belowLe {B : Nat} {w1 w2 : World} (hB : B ≤ w1.heap.size) (h : Below w1.heap.size w1 w2) : Below B w1 w2 :=
  ⟨h.os, h.tape, h.output, h.size, fun i hi => h.block i (Nat.lt_of_lt_of_le hi hB)⟩

set_option maxRecDepth 100000 in
set_option maxHeartbeats 4000000 in
theorem same0_any (a b : Ob) (f l c p i f' l' c' p' i' : Sl) (hs : a.fins.length ≤ 1000000 ∧ a.labels.length ≤ 1000000 ∧ a.cidrs.length ≤ 1000000 ∧ a.fams.length ≤ 1000000 ∧ a.ips.length ≤ 1000000) (w : World) (hr : RowsR w a f l c p i) (hq : RowsR w b f' l' c' p' i')
    (h0 : flatB a b = false) :
    Calls Try.prog 24 #[.agg (oc a f l c p i), .agg (oc b f' l' c' p' i')] w fun e w' => e = .returned (.bool false) ∧ Below w.heap.size w w' := by
  obtain ⟨w1, hw1⟩ : ∃ w1, w1 = (w.alloc (.cells (oc a f l c p i) 26)).alloc (.cells (oc b f' l' c' p' i') 26) := ⟨_, rfl⟩
  have b1 : Below w.heap.size w w1 := by rw [hw1]; exact G.bthen (bel_alloc _ _) (bel_alloc _ _)
  have p1 : w1.heap[w.heap.size]? = some (.cells (oc a f l c p i) 26 (0, 0)) := by
    rw [hw1]; exact ((bel_alloc _ _).block _ (by simp)).trans (G.heap_new _ _)
  have q1 : w1.heap[w.heap.size + 1]? = some (.cells (oc b f' l' c' p' i') 26 (0, 0)) := by
    rw [hw1]
    have h2 := G.heap_new (w.alloc (.cells (oc a f l c p i) 26)) (.cells (oc b f' l' c' p' i') 26)
    rw [show (w.alloc (.cells (oc a f l c p i) 26)).heap.size = w.heap.size + 1 by simp] at h2
    exact h2
  obtain ⟨x, hx⟩ : ∃ x, x = w.heap.size := ⟨_, rfl⟩
  obtain ⟨y, hy⟩ : ∃ y, y = w.heap.size + 1 := ⟨_, rfl⟩
  have heq := run_eq_flat a b false h0
  obtain ⟨ka0, ka1, ka2, ka3, ka4, ka5, ka6, ka7, ka8, ka9, ka10, ka11, ka12, ka13, ka14, ka15, ka16, ka17, ka18⟩ := oc_at x a f l c p i
  obtain ⟨kb0, kb1, kb2, kb3, kb4, kb5, kb6, kb7, kb8, kb9, kb10, kb11, kb12, kb13, kb14, kb15, kb16, kb17, kb18⟩ := oc_at y b f' l' c' p' i'
  have HW := Lib.hid hw1
  have B1 := Lib.hid b1
  have lw : Hid (x < w1.heap.size ∧ y < w1.heap.size) := Lib.hid ⟨by rw [hx]; exact (Array.getElem?_eq_some_iff.1 p1).1, by rw [hy]; exact (Array.getElem?_eq_some_iff.1 q1).1⟩
  rw [← hx] at p1
  rw [← hy] at q1
  have P1 := Lib.hid p1
  have Q1 := Lib.hid q1
  clear b1 p1 q1 hw1 hr hq hs h0
  go_enter Try.func24, Try.ntmps24
  go_upto_region 1 with (fail)
  rw [← HW.out, ← hy, ← hx]
  clear hx hy
  refine wp_region_held_drew (S := fun V => V.heap[x]? = some (.cells (oc a f l c p i) 26 (0, 0)) ∧ V.heap[y]? = some (.cells (oc b f' l' c' p' i') 26 (0, 0)) ∧ Below w1.heap.size w1 V) (by kernel_rfl) ⟨P1.out, Q1.out, ⟨rfl, rfl, rfl, Nat.le_refl _, fun _ _ => rfl⟩⟩ (fun hS0 => ?_)
  refine tk 0 5 (.agg (oc a f l c p i)) ?_ (hv := by exact load_row_yields 26 (.tmp 2) rfl x rfl 26 (oc a f l c p i) (0, 0) _ (fun V hV => hV.1) Try.underlying26 rfl size32); (try simp only [s1, s2, s3]); refine tk 2 7 ((Value.agg (oc b f' l' c' p' i'))) ?_ (hv := by exact load_row_yields 26 (.tmp 3) rfl y rfl 26 (oc b f' l' c' p' i') (0, 0) _ (fun V hV => hV.2.1) Try.underlying26 rfl size32); (try simp only [s1, s2, s3])
  refine wpAnyH_ready (rs := [1]) (by kernel_rfl) (by simp) ?_
  refine AllReadyH.cons rfl (fun K hK => ?_) AllReadyH.nil
  rw [if_pos (by rfl)]
  go_simp
  go_at_call 42
  refine (flatten_any a f l c p i _).mono ?_
  rintro e wf ⟨rfl, hb1⟩
  dsimp only
  refine hK.out _ _ (keepS lw.out (by assumption) hb1) (fun hHeld => ?_)
  clear hK K; try simp only [Act.put, s1, s2, s3]
  refine wpAnyH_ready (rs := [3]) (by kernel_rfl) (by simp) ?_
  refine AllReadyH.cons rfl (fun K hK => ?_) AllReadyH.nil
  rw [if_pos (by rfl)]
  go_simp
  go_at_call 42
  refine (flatten_any b f' l' c' p' i' _).mono ?_
  rintro e wg ⟨rfl, hb3⟩
  dsimp only
  refine hK.out _ _ (keepS lw.out (by assumption) hb3) (fun hHeld => ?_)
  clear hK K; try simp only [Act.put, s1, s2, s3]
  refine tk 4 9 (.bool false) ?_; (try simp only [s1, s2, s3]); refine tk 5 10 (.bool false) ?_; (try simp only [s1, s2, s3]); refine ts 6 11 ?_; (try simp only [s1, s2, s3]); refine ts 7 12 ?_; (try simp only [s1, s2, s3]); refine ts 8 13 ?_; (try simp only [s1, s2, s3]); refine ts 9 14 ?_; (try simp only [s1, s2, s3]); refine ts 10 15 ?_; (try simp only [s1, s2, s3]); refine tk 11 16 (.bool false) ?_; (try simp only [s1, s2, s3]); refine tk 12 17 (.bool false) ?_; (try simp only [s1, s2, s3]); refine ts 13 18 ?_; (try simp only [s1, s2, s3]); refine ts 14 19 ?_; (try simp only [s1, s2, s3]); refine ts 15 20 ?_; (try simp only [s1, s2, s3]); refine ts 16 21 ?_; (try simp only [s1, s2, s3]); refine ts 17 22 ?_; (try simp only [s1, s2, s3]); refine tk 18 23 (.bool false) ?_; (try simp only [s1, s2, s3]); refine tk 19 24 (.bool false) ?_; (try simp only [s1, s2, s3]); refine ts 20 25 ?_; (try simp only [s1, s2, s3]); refine ts 21 26 ?_; (try simp only [s1, s2, s3]); refine ts 22 27 ?_; (try simp only [s1, s2, s3]); refine ts 23 28 ?_; (try simp only [s1, s2, s3]); refine ts 24 29 ?_; (try simp only [s1, s2, s3]); refine tk 25 30 (.bool false) ?_; (try simp only [s1, s2, s3]); refine tk 26 31 (.bool false) ?_; (try simp only [s1, s2, s3]); refine ts 27 32 ?_; (try simp only [s1, s2, s3]); refine ts 28 33 ?_; (try simp only [s1, s2, s3]); refine ts 29 34 ?_; (try simp only [s1, s2, s3]); refine ts 30 35 ?_; (try simp only [s1, s2, s3]); refine ts 31 36 ?_; (try simp only [s1, s2, s3]); refine tk 32 37 (.bool false) ?_; (try simp only [s1, s2, s3]); refine tk 33 38 (.bool false) ?_; (try simp only [s1, s2, s3]); refine ts 34 39 ?_; (try simp only [s1, s2, s3]); refine ts 35 40 ?_; (try simp only [s1, s2, s3]); refine ts 36 41 ?_; (try simp only [s1, s2, s3]); refine ts 37 42 ?_; (try simp only [s1, s2, s3]); refine ts 38 43 ?_; (try simp only [s1, s2, s3]); refine tk 39 44 (.bool false) ?_; (try simp only [s1, s2, s3]); refine tk 40 4 (.bool false) ?_; (try simp only [s1, s2, s3])
  refine wpAnyH_done (by kernel_rfl) ?_ _
  have HE := Lib.hid hHeld
  go_wp2
  go_ret
  exact ⟨rfl, B1.out.trans (belowLe (by have := B1.out.size; exact this) HE.out.2.2)⟩

set_option maxRecDepth 100000 in
set_option maxHeartbeats 4000000 in
theorem same1_any (a b : Ob) (f l c p i f' l' c' p' i' : Sl) (hs : a.fins.length ≤ 1000000 ∧ a.labels.length ≤ 1000000 ∧ a.cidrs.length ≤ 1000000 ∧ a.fams.length ≤ 1000000 ∧ a.ips.length ≤ 1000000) (w : World) (hr : RowsR w a f l c p i) (hq : RowsR w b f' l' c' p' i')
    (h0 : flatB a b = true) (h1 : decide (a.fins = b.fins) = false) :
    Calls Try.prog 24 #[.agg (oc a f l c p i), .agg (oc b f' l' c' p' i')] w fun e w' => e = .returned (.bool false) ∧ Below w.heap.size w w' := by
  obtain ⟨w1, hw1⟩ : ∃ w1, w1 = (w.alloc (.cells (oc a f l c p i) 26)).alloc (.cells (oc b f' l' c' p' i') 26) := ⟨_, rfl⟩
  have b1 : Below w.heap.size w w1 := by rw [hw1]; exact G.bthen (bel_alloc _ _) (bel_alloc _ _)
  have p1 : w1.heap[w.heap.size]? = some (.cells (oc a f l c p i) 26 (0, 0)) := by
    rw [hw1]; exact ((bel_alloc _ _).block _ (by simp)).trans (G.heap_new _ _)
  have q1 : w1.heap[w.heap.size + 1]? = some (.cells (oc b f' l' c' p' i') 26 (0, 0)) := by
    rw [hw1]
    have h2 := G.heap_new (w.alloc (.cells (oc a f l c p i) 26)) (.cells (oc b f' l' c' p' i') 26)
    rw [show (w.alloc (.cells (oc a f l c p i) 26)).heap.size = w.heap.size + 1 by simp] at h2
    exact h2
  obtain ⟨x, hx⟩ : ∃ x, x = w.heap.size := ⟨_, rfl⟩
  obtain ⟨y, hy⟩ : ∃ y, y = w.heap.size + 1 := ⟨_, rfl⟩
  have heq := run_eq_flat a b true h0
  obtain ⟨ka0, ka1, ka2, ka3, ka4, ka5, ka6, ka7, ka8, ka9, ka10, ka11, ka12, ka13, ka14, ka15, ka16, ka17, ka18⟩ := oc_at x a f l c p i
  obtain ⟨kb0, kb1, kb2, kb3, kb4, kb5, kb6, kb7, kb8, kb9, kb10, kb11, kb12, kb13, kb14, kb15, kb16, kb17, kb18⟩ := oc_at y b f' l' c' p' i'
  have hc0 : ∀ V, Below w1.heap.size w1 V → Calls Try.prog 43 #[.slice f.A a.fins.length f.c, .slice f'.A b.fins.length f'.c] V fun e w' => e = .returned (.bool false) ∧ Below V.heap.size V w' := fun V hV => by rw [← h1]; exact eqstr_any a.fins b.fins f.A f'.A f.c f'.c hs.1 V ((hr.fr.below b1).below hV) ((hq.fr.below b1).below hV)
  have HC0 := Lib.hid hc0
  have HW := Lib.hid hw1
  have B1 := Lib.hid b1
  have lw : Hid (x < w1.heap.size ∧ y < w1.heap.size) := Lib.hid ⟨by rw [hx]; exact (Array.getElem?_eq_some_iff.1 p1).1, by rw [hy]; exact (Array.getElem?_eq_some_iff.1 q1).1⟩
  rw [← hx] at p1
  rw [← hy] at q1
  have P1 := Lib.hid p1
  have Q1 := Lib.hid q1
  clear b1 p1 q1 hw1 hr hq hs h0 hc0 h1
  go_enter Try.func24, Try.ntmps24
  go_upto_region 1 with (fail)
  rw [← HW.out, ← hy, ← hx]
  clear hx hy
  refine wp_region_held_drew (S := fun V => V.heap[x]? = some (.cells (oc a f l c p i) 26 (0, 0)) ∧ V.heap[y]? = some (.cells (oc b f' l' c' p' i') 26 (0, 0)) ∧ Below w1.heap.size w1 V) (by kernel_rfl) ⟨P1.out, Q1.out, ⟨rfl, rfl, rfl, Nat.le_refl _, fun _ _ => rfl⟩⟩ (fun hS0 => ?_)
  refine tk 0 5 (.agg (oc a f l c p i)) ?_ (hv := by exact load_row_yields 26 (.tmp 2) rfl x rfl 26 (oc a f l c p i) (0, 0) _ (fun V hV => hV.1) Try.underlying26 rfl size32); (try simp only [s1, s2, s3]); refine tk 2 7 ((Value.agg (oc b f' l' c' p' i'))) ?_ (hv := by exact load_row_yields 26 (.tmp 3) rfl y rfl 26 (oc b f' l' c' p' i') (0, 0) _ (fun V hV => hV.2.1) Try.underlying26 rfl size32); (try simp only [s1, s2, s3])
  refine wpAnyH_ready (rs := [1]) (by kernel_rfl) (by simp) ?_
  refine AllReadyH.cons rfl (fun K hK => ?_) AllReadyH.nil
  rw [if_pos (by rfl)]
  go_simp
  go_at_call 42
  refine (flatten_any a f l c p i _).mono ?_
  rintro e wf ⟨rfl, hb1⟩
  dsimp only
  refine hK.out _ _ (keepS lw.out (by assumption) hb1) (fun hHeld => ?_)
  clear hK K; try simp only [Act.put, s1, s2, s3]
  refine wpAnyH_ready (rs := [3]) (by kernel_rfl) (by simp) ?_
  refine AllReadyH.cons rfl (fun K hK => ?_) AllReadyH.nil
  rw [if_pos (by rfl)]
  go_simp
  go_at_call 42
  refine (flatten_any b f' l' c' p' i' _).mono ?_
  rintro e wg ⟨rfl, hb3⟩
  dsimp only
  refine hK.out _ _ (keepS lw.out (by assumption) hb3) (fun hHeld => ?_)
  clear hK K; try simp only [Act.put, s1, s2, s3]
  refine tk 4 9 (.bool true) ?_; (try simp only [s1, s2, s3]); refine tk 5 10 (.bool true) ?_; (try simp only [s1, s2, s3]); refine tk 6 11 (.pointer (some ⟨x, 5, none⟩)) ?_; (try simp only [s1, s2, s3]); refine tk 7 12 (.slice f.A a.fins.length f.c) ?_ (hv := by (intro V hV; have hc := ka5 V hV.1; clear hV; go_simp; try rfl)); (try simp only [s1, s2, s3]); refine tk 8 13 (.pointer (some ⟨y, 5, none⟩)) ?_; (try simp only [s1, s2, s3]); refine tk 9 14 (.slice f'.A b.fins.length f'.c) ?_ (hv := by (intro V hV; have hc := kb5 V hV.2.1; clear hV; go_simp; try rfl)); (try simp only [s1, s2, s3])
  refine wpAnyH_ready (rs := [10]) (by kernel_rfl) (by simp) ?_
  refine AllReadyH.cons rfl (fun K hK => ?_) AllReadyH.nil
  rw [if_pos (by rfl)]
  go_simp
  go_at_call 43
  refine (HC0.out _ (And.right (And.right ‹_ ∧ _›))).mono ?_
  rintro e wq0 ⟨rfl, hb10⟩
  dsimp only
  refine hK.out _ _ (keepS lw.out (by assumption) hb10) (fun hHeld => ?_)
  clear hK K; try simp only [Act.put, s1, s2, s3]
  refine tk 11 16 (.bool false) ?_; (try simp only [s1, s2, s3]); refine tk 12 17 (.bool false) ?_; (try simp only [s1, s2, s3]); refine ts 13 18 ?_; (try simp only [s1, s2, s3]); refine ts 14 19 ?_; (try simp only [s1, s2, s3]); refine ts 15 20 ?_; (try simp only [s1, s2, s3]); refine ts 16 21 ?_; (try simp only [s1, s2, s3]); refine ts 17 22 ?_; (try simp only [s1, s2, s3]); refine tk 18 23 (.bool false) ?_; (try simp only [s1, s2, s3]); refine tk 19 24 (.bool false) ?_; (try simp only [s1, s2, s3]); refine ts 20 25 ?_; (try simp only [s1, s2, s3]); refine ts 21 26 ?_; (try simp only [s1, s2, s3]); refine ts 22 27 ?_; (try simp only [s1, s2, s3]); refine ts 23 28 ?_; (try simp only [s1, s2, s3]); refine ts 24 29 ?_; (try simp only [s1, s2, s3]); refine tk 25 30 (.bool false) ?_; (try simp only [s1, s2, s3]); refine tk 26 31 (.bool false) ?_; (try simp only [s1, s2, s3]); refine ts 27 32 ?_; (try simp only [s1, s2, s3]); refine ts 28 33 ?_; (try simp only [s1, s2, s3]); refine ts 29 34 ?_; (try simp only [s1, s2, s3]); refine ts 30 35 ?_; (try simp only [s1, s2, s3]); refine ts 31 36 ?_; (try simp only [s1, s2, s3]); refine tk 32 37 (.bool false) ?_; (try simp only [s1, s2, s3]); refine tk 33 38 (.bool false) ?_; (try simp only [s1, s2, s3]); refine ts 34 39 ?_; (try simp only [s1, s2, s3]); refine ts 35 40 ?_; (try simp only [s1, s2, s3]); refine ts 36 41 ?_; (try simp only [s1, s2, s3]); refine ts 37 42 ?_; (try simp only [s1, s2, s3]); refine ts 38 43 ?_; (try simp only [s1, s2, s3]); refine tk 39 44 (.bool false) ?_; (try simp only [s1, s2, s3]); refine tk 40 4 (.bool false) ?_; (try simp only [s1, s2, s3])
  refine wpAnyH_done (by kernel_rfl) ?_ _
  have HE := Lib.hid hHeld
  go_wp2
  go_ret
  exact ⟨rfl, B1.out.trans (belowLe (by have := B1.out.size; exact this) HE.out.2.2)⟩

set_option maxRecDepth 100000 in
set_option maxHeartbeats 4000000 in
theorem same2_any (a b : Ob) (f l c p i f' l' c' p' i' : Sl) (hs : a.fins.length ≤ 1000000 ∧ a.labels.length ≤ 1000000 ∧ a.cidrs.length ≤ 1000000 ∧ a.fams.length ≤ 1000000 ∧ a.ips.length ≤ 1000000) (w : World) (hr : RowsR w a f l c p i) (hq : RowsR w b f' l' c' p' i')
    (h0 : flatB a b = true) (h1 : decide (a.fins = b.fins) = true) (h2 : decide (a.labels = b.labels) = false) :
    Calls Try.prog 24 #[.agg (oc a f l c p i), .agg (oc b f' l' c' p' i')] w fun e w' => e = .returned (.bool false) ∧ Below w.heap.size w w' := by
  obtain ⟨w1, hw1⟩ : ∃ w1, w1 = (w.alloc (.cells (oc a f l c p i) 26)).alloc (.cells (oc b f' l' c' p' i') 26) := ⟨_, rfl⟩
  have b1 : Below w.heap.size w w1 := by rw [hw1]; exact G.bthen (bel_alloc _ _) (bel_alloc _ _)
  have p1 : w1.heap[w.heap.size]? = some (.cells (oc a f l c p i) 26 (0, 0)) := by
    rw [hw1]; exact ((bel_alloc _ _).block _ (by simp)).trans (G.heap_new _ _)
  have q1 : w1.heap[w.heap.size + 1]? = some (.cells (oc b f' l' c' p' i') 26 (0, 0)) := by
    rw [hw1]
    have h2 := G.heap_new (w.alloc (.cells (oc a f l c p i) 26)) (.cells (oc b f' l' c' p' i') 26)
    rw [show (w.alloc (.cells (oc a f l c p i) 26)).heap.size = w.heap.size + 1 by simp] at h2
    exact h2
  obtain ⟨x, hx⟩ : ∃ x, x = w.heap.size := ⟨_, rfl⟩
  obtain ⟨y, hy⟩ : ∃ y, y = w.heap.size + 1 := ⟨_, rfl⟩
  have heq := run_eq_flat a b true h0
  obtain ⟨ka0, ka1, ka2, ka3, ka4, ka5, ka6, ka7, ka8, ka9, ka10, ka11, ka12, ka13, ka14, ka15, ka16, ka17, ka18⟩ := oc_at x a f l c p i
  obtain ⟨kb0, kb1, kb2, kb3, kb4, kb5, kb6, kb7, kb8, kb9, kb10, kb11, kb12, kb13, kb14, kb15, kb16, kb17, kb18⟩ := oc_at y b f' l' c' p' i'
  have hc0 : ∀ V, Below w1.heap.size w1 V → Calls Try.prog 43 #[.slice f.A a.fins.length f.c, .slice f'.A b.fins.length f'.c] V fun e w' => e = .returned (.bool true) ∧ Below V.heap.size V w' := fun V hV => by rw [← h1]; exact eqstr_any a.fins b.fins f.A f'.A f.c f'.c hs.1 V ((hr.fr.below b1).below hV) ((hq.fr.below b1).below hV)
  have HC0 := Lib.hid hc0
  have hc1 : ∀ V, Below w1.heap.size w1 V → Calls Try.prog 44 #[.slice l.A a.labels.length l.c, .slice l'.A b.labels.length l'.c] V fun e w' => e = .returned (.bool false) ∧ Below V.heap.size V w' := fun V hV => by rw [← h2]; exact eqpair_any a.labels b.labels l.A l'.A l.c l'.c hs.2.1 V ((hr.lr.below b1).below hV) ((hq.lr.below b1).below hV)
  have HC1 := Lib.hid hc1
  have HW := Lib.hid hw1
  have B1 := Lib.hid b1
  have lw : Hid (x < w1.heap.size ∧ y < w1.heap.size) := Lib.hid ⟨by rw [hx]; exact (Array.getElem?_eq_some_iff.1 p1).1, by rw [hy]; exact (Array.getElem?_eq_some_iff.1 q1).1⟩
  rw [← hx] at p1
  rw [← hy] at q1
  have P1 := Lib.hid p1
  have Q1 := Lib.hid q1
  clear b1 p1 q1 hw1 hr hq hs h0 hc0 h1 hc1 h2
  go_enter Try.func24, Try.ntmps24
  go_upto_region 1 with (fail)
  rw [← HW.out, ← hy, ← hx]
  clear hx hy
  refine wp_region_held_drew (S := fun V => V.heap[x]? = some (.cells (oc a f l c p i) 26 (0, 0)) ∧ V.heap[y]? = some (.cells (oc b f' l' c' p' i') 26 (0, 0)) ∧ Below w1.heap.size w1 V) (by kernel_rfl) ⟨P1.out, Q1.out, ⟨rfl, rfl, rfl, Nat.le_refl _, fun _ _ => rfl⟩⟩ (fun hS0 => ?_)
  refine tk 0 5 (.agg (oc a f l c p i)) ?_ (hv := by exact load_row_yields 26 (.tmp 2) rfl x rfl 26 (oc a f l c p i) (0, 0) _ (fun V hV => hV.1) Try.underlying26 rfl size32); (try simp only [s1, s2, s3]); refine tk 2 7 ((Value.agg (oc b f' l' c' p' i'))) ?_ (hv := by exact load_row_yields 26 (.tmp 3) rfl y rfl 26 (oc b f' l' c' p' i') (0, 0) _ (fun V hV => hV.2.1) Try.underlying26 rfl size32); (try simp only [s1, s2, s3])
  refine wpAnyH_ready (rs := [1]) (by kernel_rfl) (by simp) ?_
  refine AllReadyH.cons rfl (fun K hK => ?_) AllReadyH.nil
  rw [if_pos (by rfl)]
  go_simp
  go_at_call 42
  refine (flatten_any a f l c p i _).mono ?_
  rintro e wf ⟨rfl, hb1⟩
  dsimp only
  refine hK.out _ _ (keepS lw.out (by assumption) hb1) (fun hHeld => ?_)
  clear hK K; try simp only [Act.put, s1, s2, s3]
  refine wpAnyH_ready (rs := [3]) (by kernel_rfl) (by simp) ?_
  refine AllReadyH.cons rfl (fun K hK => ?_) AllReadyH.nil
  rw [if_pos (by rfl)]
  go_simp
  go_at_call 42
  refine (flatten_any b f' l' c' p' i' _).mono ?_
  rintro e wg ⟨rfl, hb3⟩
  dsimp only
  refine hK.out _ _ (keepS lw.out (by assumption) hb3) (fun hHeld => ?_)
  clear hK K; try simp only [Act.put, s1, s2, s3]
  refine tk 4 9 (.bool true) ?_; (try simp only [s1, s2, s3]); refine tk 5 10 (.bool true) ?_; (try simp only [s1, s2, s3]); refine tk 6 11 (.pointer (some ⟨x, 5, none⟩)) ?_; (try simp only [s1, s2, s3]); refine tk 7 12 (.slice f.A a.fins.length f.c) ?_ (hv := by (intro V hV; have hc := ka5 V hV.1; clear hV; go_simp; try rfl)); (try simp only [s1, s2, s3]); refine tk 8 13 (.pointer (some ⟨y, 5, none⟩)) ?_; (try simp only [s1, s2, s3]); refine tk 9 14 (.slice f'.A b.fins.length f'.c) ?_ (hv := by (intro V hV; have hc := kb5 V hV.2.1; clear hV; go_simp; try rfl)); (try simp only [s1, s2, s3])
  refine wpAnyH_ready (rs := [10]) (by kernel_rfl) (by simp) ?_
  refine AllReadyH.cons rfl (fun K hK => ?_) AllReadyH.nil
  rw [if_pos (by rfl)]
  go_simp
  go_at_call 43
  refine (HC0.out _ (And.right (And.right ‹_ ∧ _›))).mono ?_
  rintro e wq0 ⟨rfl, hb10⟩
  dsimp only
  refine hK.out _ _ (keepS lw.out (by assumption) hb10) (fun hHeld => ?_)
  clear hK K; try simp only [Act.put, s1, s2, s3]
  refine tk 11 16 (.bool true) ?_; (try simp only [s1, s2, s3]); refine tk 12 17 (.bool true) ?_; (try simp only [s1, s2, s3]); refine tk 13 18 (.pointer (some ⟨x, 6, none⟩)) ?_; (try simp only [s1, s2, s3]); refine tk 14 19 (.slice l.A a.labels.length l.c) ?_ (hv := by (intro V hV; have hc := ka6 V hV.1; clear hV; go_simp; try rfl)); (try simp only [s1, s2, s3]); refine tk 15 20 (.pointer (some ⟨y, 6, none⟩)) ?_; (try simp only [s1, s2, s3]); refine tk 16 21 (.slice l'.A b.labels.length l'.c) ?_ (hv := by (intro V hV; have hc := kb6 V hV.2.1; clear hV; go_simp; try rfl)); (try simp only [s1, s2, s3])
  refine wpAnyH_ready (rs := [17]) (by kernel_rfl) (by simp) ?_
  refine AllReadyH.cons rfl (fun K hK => ?_) AllReadyH.nil
  rw [if_pos (by rfl)]
  go_simp
  go_at_call 44
  refine (HC1.out _ (And.right (And.right ‹_ ∧ _›))).mono ?_
  rintro e wq1 ⟨rfl, hb17⟩
  dsimp only
  refine hK.out _ _ (keepS lw.out (by assumption) hb17) (fun hHeld => ?_)
  clear hK K; try simp only [Act.put, s1, s2, s3]
  refine tk 18 23 (.bool false) ?_; (try simp only [s1, s2, s3]); refine tk 19 24 (.bool false) ?_; (try simp only [s1, s2, s3]); refine ts 20 25 ?_; (try simp only [s1, s2, s3]); refine ts 21 26 ?_; (try simp only [s1, s2, s3]); refine ts 22 27 ?_; (try simp only [s1, s2, s3]); refine ts 23 28 ?_; (try simp only [s1, s2, s3]); refine ts 24 29 ?_; (try simp only [s1, s2, s3]); refine tk 25 30 (.bool false) ?_; (try simp only [s1, s2, s3]); refine tk 26 31 (.bool false) ?_; (try simp only [s1, s2, s3]); refine ts 27 32 ?_; (try simp only [s1, s2, s3]); refine ts 28 33 ?_; (try simp only [s1, s2, s3]); refine ts 29 34 ?_; (try simp only [s1, s2, s3]); refine ts 30 35 ?_; (try simp only [s1, s2, s3]); refine ts 31 36 ?_; (try simp only [s1, s2, s3]); refine tk 32 37 (.bool false) ?_; (try simp only [s1, s2, s3]); refine tk 33 38 (.bool false) ?_; (try simp only [s1, s2, s3]); refine ts 34 39 ?_; (try simp only [s1, s2, s3]); refine ts 35 40 ?_; (try simp only [s1, s2, s3]); refine ts 36 41 ?_; (try simp only [s1, s2, s3]); refine ts 37 42 ?_; (try simp only [s1, s2, s3]); refine ts 38 43 ?_; (try simp only [s1, s2, s3]); refine tk 39 44 (.bool false) ?_; (try simp only [s1, s2, s3]); refine tk 40 4 (.bool false) ?_; (try simp only [s1, s2, s3])
  refine wpAnyH_done (by kernel_rfl) ?_ _
  have HE := Lib.hid hHeld
  go_wp2
  go_ret
  exact ⟨rfl, B1.out.trans (belowLe (by have := B1.out.size; exact this) HE.out.2.2)⟩

set_option maxRecDepth 100000 in
set_option maxHeartbeats 4000000 in
theorem same3_any (a b : Ob) (f l c p i f' l' c' p' i' : Sl) (hs : a.fins.length ≤ 1000000 ∧ a.labels.length ≤ 1000000 ∧ a.cidrs.length ≤ 1000000 ∧ a.fams.length ≤ 1000000 ∧ a.ips.length ≤ 1000000) (w : World) (hr : RowsR w a f l c p i) (hq : RowsR w b f' l' c' p' i')
    (h0 : flatB a b = true) (h1 : decide (a.fins = b.fins) = true) (h2 : decide (a.labels = b.labels) = true) (h3 : decide (a.cidrs = b.cidrs) = false) :
    Calls Try.prog 24 #[.agg (oc a f l c p i), .agg (oc b f' l' c' p' i')] w fun e w' => e = .returned (.bool false) ∧ Below w.heap.size w w' := by
  obtain ⟨w1, hw1⟩ : ∃ w1, w1 = (w.alloc (.cells (oc a f l c p i) 26)).alloc (.cells (oc b f' l' c' p' i') 26) := ⟨_, rfl⟩
  have b1 : Below w.heap.size w w1 := by rw [hw1]; exact G.bthen (bel_alloc _ _) (bel_alloc _ _)
  have p1 : w1.heap[w.heap.size]? = some (.cells (oc a f l c p i) 26 (0, 0)) := by
    rw [hw1]; exact ((bel_alloc _ _).block _ (by simp)).trans (G.heap_new _ _)
  have q1 : w1.heap[w.heap.size + 1]? = some (.cells (oc b f' l' c' p' i') 26 (0, 0)) := by
    rw [hw1]
    have h2 := G.heap_new (w.alloc (.cells (oc a f l c p i) 26)) (.cells (oc b f' l' c' p' i') 26)
    rw [show (w.alloc (.cells (oc a f l c p i) 26)).heap.size = w.heap.size + 1 by simp] at h2
    exact h2
  obtain ⟨x, hx⟩ : ∃ x, x = w.heap.size := ⟨_, rfl⟩
  obtain ⟨y, hy⟩ : ∃ y, y = w.heap.size + 1 := ⟨_, rfl⟩
  have heq := run_eq_flat a b true h0
  obtain ⟨ka0, ka1, ka2, ka3, ka4, ka5, ka6, ka7, ka8, ka9, ka10, ka11, ka12, ka13, ka14, ka15, ka16, ka17, ka18⟩ := oc_at x a f l c p i
  obtain ⟨kb0, kb1, kb2, kb3, kb4, kb5, kb6, kb7, kb8, kb9, kb10, kb11, kb12, kb13, kb14, kb15, kb16, kb17, kb18⟩ := oc_at y b f' l' c' p' i'
  have hc0 : ∀ V, Below w1.heap.size w1 V → Calls Try.prog 43 #[.slice f.A a.fins.length f.c, .slice f'.A b.fins.length f'.c] V fun e w' => e = .returned (.bool true) ∧ Below V.heap.size V w' := fun V hV => by rw [← h1]; exact eqstr_any a.fins b.fins f.A f'.A f.c f'.c hs.1 V ((hr.fr.below b1).below hV) ((hq.fr.below b1).below hV)
  have HC0 := Lib.hid hc0
  have hc1 : ∀ V, Below w1.heap.size w1 V → Calls Try.prog 44 #[.slice l.A a.labels.length l.c, .slice l'.A b.labels.length l'.c] V fun e w' => e = .returned (.bool true) ∧ Below V.heap.size V w' := fun V hV => by rw [← h2]; exact eqpair_any a.labels b.labels l.A l'.A l.c l'.c hs.2.1 V ((hr.lr.below b1).below hV) ((hq.lr.below b1).below hV)
  have HC1 := Lib.hid hc1
  have hc2 : ∀ V, Below w1.heap.size w1 V → Calls Try.prog 43 #[.slice c.A a.cidrs.length c.c, .slice c'.A b.cidrs.length c'.c] V fun e w' => e = .returned (.bool false) ∧ Below V.heap.size V w' := fun V hV => by rw [← h3]; exact eqstr_any a.cidrs b.cidrs c.A c'.A c.c c'.c hs.2.2.1 V ((hr.cr.below b1).below hV) ((hq.cr.below b1).below hV)
  have HC2 := Lib.hid hc2
  have HW := Lib.hid hw1
  have B1 := Lib.hid b1
  have lw : Hid (x < w1.heap.size ∧ y < w1.heap.size) := Lib.hid ⟨by rw [hx]; exact (Array.getElem?_eq_some_iff.1 p1).1, by rw [hy]; exact (Array.getElem?_eq_some_iff.1 q1).1⟩
  rw [← hx] at p1
  rw [← hy] at q1
  have P1 := Lib.hid p1
  have Q1 := Lib.hid q1
  clear b1 p1 q1 hw1 hr hq hs h0 hc0 h1 hc1 h2 hc2 h3
  go_enter Try.func24, Try.ntmps24
  go_upto_region 1 with (fail)
  rw [← HW.out, ← hy, ← hx]
  clear hx hy
  refine wp_region_held_drew (S := fun V => V.heap[x]? = some (.cells (oc a f l c p i) 26 (0, 0)) ∧ V.heap[y]? = some (.cells (oc b f' l' c' p' i') 26 (0, 0)) ∧ Below w1.heap.size w1 V) (by kernel_rfl) ⟨P1.out, Q1.out, ⟨rfl, rfl, rfl, Nat.le_refl _, fun _ _ => rfl⟩⟩ (fun hS0 => ?_)
  refine tk 0 5 (.agg (oc a f l c p i)) ?_ (hv := by exact load_row_yields 26 (.tmp 2) rfl x rfl 26 (oc a f l c p i) (0, 0) _ (fun V hV => hV.1) Try.underlying26 rfl size32); (try simp only [s1, s2, s3]); refine tk 2 7 ((Value.agg (oc b f' l' c' p' i'))) ?_ (hv := by exact load_row_yields 26 (.tmp 3) rfl y rfl 26 (oc b f' l' c' p' i') (0, 0) _ (fun V hV => hV.2.1) Try.underlying26 rfl size32); (try simp only [s1, s2, s3])
  refine wpAnyH_ready (rs := [1]) (by kernel_rfl) (by simp) ?_
  refine AllReadyH.cons rfl (fun K hK => ?_) AllReadyH.nil
  rw [if_pos (by rfl)]
  go_simp
  go_at_call 42
  refine (flatten_any a f l c p i _).mono ?_
  rintro e wf ⟨rfl, hb1⟩
  dsimp only
  refine hK.out _ _ (keepS lw.out (by assumption) hb1) (fun hHeld => ?_)
  clear hK K; try simp only [Act.put, s1, s2, s3]
  refine wpAnyH_ready (rs := [3]) (by kernel_rfl) (by simp) ?_
  refine AllReadyH.cons rfl (fun K hK => ?_) AllReadyH.nil
  rw [if_pos (by rfl)]
  go_simp
  go_at_call 42
  refine (flatten_any b f' l' c' p' i' _).mono ?_
  rintro e wg ⟨rfl, hb3⟩
  dsimp only
  refine hK.out _ _ (keepS lw.out (by assumption) hb3) (fun hHeld => ?_)
  clear hK K; try simp only [Act.put, s1, s2, s3]
  refine tk 4 9 (.bool true) ?_; (try simp only [s1, s2, s3]); refine tk 5 10 (.bool true) ?_; (try simp only [s1, s2, s3]); refine tk 6 11 (.pointer (some ⟨x, 5, none⟩)) ?_; (try simp only [s1, s2, s3]); refine tk 7 12 (.slice f.A a.fins.length f.c) ?_ (hv := by (intro V hV; have hc := ka5 V hV.1; clear hV; go_simp; try rfl)); (try simp only [s1, s2, s3]); refine tk 8 13 (.pointer (some ⟨y, 5, none⟩)) ?_; (try simp only [s1, s2, s3]); refine tk 9 14 (.slice f'.A b.fins.length f'.c) ?_ (hv := by (intro V hV; have hc := kb5 V hV.2.1; clear hV; go_simp; try rfl)); (try simp only [s1, s2, s3])
  refine wpAnyH_ready (rs := [10]) (by kernel_rfl) (by simp) ?_
  refine AllReadyH.cons rfl (fun K hK => ?_) AllReadyH.nil
  rw [if_pos (by rfl)]
  go_simp
  go_at_call 43
  refine (HC0.out _ (And.right (And.right ‹_ ∧ _›))).mono ?_
  rintro e wq0 ⟨rfl, hb10⟩
  dsimp only
  refine hK.out _ _ (keepS lw.out (by assumption) hb10) (fun hHeld => ?_)
  clear hK K; try simp only [Act.put, s1, s2, s3]
  refine tk 11 16 (.bool true) ?_; (try simp only [s1, s2, s3]); refine tk 12 17 (.bool true) ?_; (try simp only [s1, s2, s3]); refine tk 13 18 (.pointer (some ⟨x, 6, none⟩)) ?_; (try simp only [s1, s2, s3]); refine tk 14 19 (.slice l.A a.labels.length l.c) ?_ (hv := by (intro V hV; have hc := ka6 V hV.1; clear hV; go_simp; try rfl)); (try simp only [s1, s2, s3]); refine tk 15 20 (.pointer (some ⟨y, 6, none⟩)) ?_; (try simp only [s1, s2, s3]); refine tk 16 21 (.slice l'.A b.labels.length l'.c) ?_ (hv := by (intro V hV; have hc := kb6 V hV.2.1; clear hV; go_simp; try rfl)); (try simp only [s1, s2, s3])
  refine wpAnyH_ready (rs := [17]) (by kernel_rfl) (by simp) ?_
  refine AllReadyH.cons rfl (fun K hK => ?_) AllReadyH.nil
  rw [if_pos (by rfl)]
  go_simp
  go_at_call 44
  refine (HC1.out _ (And.right (And.right ‹_ ∧ _›))).mono ?_
  rintro e wq1 ⟨rfl, hb17⟩
  dsimp only
  refine hK.out _ _ (keepS lw.out (by assumption) hb17) (fun hHeld => ?_)
  clear hK K; try simp only [Act.put, s1, s2, s3]
  refine tk 18 23 (.bool true) ?_; (try simp only [s1, s2, s3]); refine tk 19 24 (.bool true) ?_; (try simp only [s1, s2, s3]); refine tk 20 25 (.pointer (some ⟨x, 7, none⟩)) ?_; (try simp only [s1, s2, s3]); refine tk 21 26 (.slice c.A a.cidrs.length c.c) ?_ (hv := by (intro V hV; have hc := ka7 V hV.1; clear hV; go_simp; try rfl)); (try simp only [s1, s2, s3]); refine tk 22 27 (.pointer (some ⟨y, 7, none⟩)) ?_; (try simp only [s1, s2, s3]); refine tk 23 28 (.slice c'.A b.cidrs.length c'.c) ?_ (hv := by (intro V hV; have hc := kb7 V hV.2.1; clear hV; go_simp; try rfl)); (try simp only [s1, s2, s3])
  refine wpAnyH_ready (rs := [24]) (by kernel_rfl) (by simp) ?_
  refine AllReadyH.cons rfl (fun K hK => ?_) AllReadyH.nil
  rw [if_pos (by rfl)]
  go_simp
  go_at_call 43
  refine (HC2.out _ (And.right (And.right ‹_ ∧ _›))).mono ?_
  rintro e wq2 ⟨rfl, hb24⟩
  dsimp only
  refine hK.out _ _ (keepS lw.out (by assumption) hb24) (fun hHeld => ?_)
  clear hK K; try simp only [Act.put, s1, s2, s3]
  refine tk 25 30 (.bool false) ?_; (try simp only [s1, s2, s3]); refine tk 26 31 (.bool false) ?_; (try simp only [s1, s2, s3]); refine ts 27 32 ?_; (try simp only [s1, s2, s3]); refine ts 28 33 ?_; (try simp only [s1, s2, s3]); refine ts 29 34 ?_; (try simp only [s1, s2, s3]); refine ts 30 35 ?_; (try simp only [s1, s2, s3]); refine ts 31 36 ?_; (try simp only [s1, s2, s3]); refine tk 32 37 (.bool false) ?_; (try simp only [s1, s2, s3]); refine tk 33 38 (.bool false) ?_; (try simp only [s1, s2, s3]); refine ts 34 39 ?_; (try simp only [s1, s2, s3]); refine ts 35 40 ?_; (try simp only [s1, s2, s3]); refine ts 36 41 ?_; (try simp only [s1, s2, s3]); refine ts 37 42 ?_; (try simp only [s1, s2, s3]); refine ts 38 43 ?_; (try simp only [s1, s2, s3]); refine tk 39 44 (.bool false) ?_; (try simp only [s1, s2, s3]); refine tk 40 4 (.bool false) ?_; (try simp only [s1, s2, s3])
  refine wpAnyH_done (by kernel_rfl) ?_ _
  have HE := Lib.hid hHeld
  go_wp2
  go_ret
  exact ⟨rfl, B1.out.trans (belowLe (by have := B1.out.size; exact this) HE.out.2.2)⟩

set_option maxRecDepth 100000 in
set_option maxHeartbeats 4000000 in
theorem same4_any (a b : Ob) (f l c p i f' l' c' p' i' : Sl) (hs : a.fins.length ≤ 1000000 ∧ a.labels.length ≤ 1000000 ∧ a.cidrs.length ≤ 1000000 ∧ a.fams.length ≤ 1000000 ∧ a.ips.length ≤ 1000000) (w : World) (hr : RowsR w a f l c p i) (hq : RowsR w b f' l' c' p' i')
    (h0 : flatB a b = true) (h1 : decide (a.fins = b.fins) = true) (h2 : decide (a.labels = b.labels) = true) (h3 : decide (a.cidrs = b.cidrs) = true) (h4 : decide (a.fams = b.fams) = false) :
    Calls Try.prog 24 #[.agg (oc a f l c p i), .agg (oc b f' l' c' p' i')] w fun e w' => e = .returned (.bool false) ∧ Below w.heap.size w w' := by
  obtain ⟨w1, hw1⟩ : ∃ w1, w1 = (w.alloc (.cells (oc a f l c p i) 26)).alloc (.cells (oc b f' l' c' p' i') 26) := ⟨_, rfl⟩
  have b1 : Below w.heap.size w w1 := by rw [hw1]; exact G.bthen (bel_alloc _ _) (bel_alloc _ _)
  have p1 : w1.heap[w.heap.size]? = some (.cells (oc a f l c p i) 26 (0, 0)) := by
    rw [hw1]; exact ((bel_alloc _ _).block _ (by simp)).trans (G.heap_new _ _)
  have q1 : w1.heap[w.heap.size + 1]? = some (.cells (oc b f' l' c' p' i') 26 (0, 0)) := by
    rw [hw1]
    have h2 := G.heap_new (w.alloc (.cells (oc a f l c p i) 26)) (.cells (oc b f' l' c' p' i') 26)
    rw [show (w.alloc (.cells (oc a f l c p i) 26)).heap.size = w.heap.size + 1 by simp] at h2
    exact h2
  obtain ⟨x, hx⟩ : ∃ x, x = w.heap.size := ⟨_, rfl⟩
  obtain ⟨y, hy⟩ : ∃ y, y = w.heap.size + 1 := ⟨_, rfl⟩
  have heq := run_eq_flat a b true h0
  obtain ⟨ka0, ka1, ka2, ka3, ka4, ka5, ka6, ka7, ka8, ka9, ka10, ka11, ka12, ka13, ka14, ka15, ka16, ka17, ka18⟩ := oc_at x a f l c p i
  obtain ⟨kb0, kb1, kb2, kb3, kb4, kb5, kb6, kb7, kb8, kb9, kb10, kb11, kb12, kb13, kb14, kb15, kb16, kb17, kb18⟩ := oc_at y b f' l' c' p' i'
  have hc0 : ∀ V, Below w1.heap.size w1 V → Calls Try.prog 43 #[.slice f.A a.fins.length f.c, .slice f'.A b.fins.length f'.c] V fun e w' => e = .returned (.bool true) ∧ Below V.heap.size V w' := fun V hV => by rw [← h1]; exact eqstr_any a.fins b.fins f.A f'.A f.c f'.c hs.1 V ((hr.fr.below b1).below hV) ((hq.fr.below b1).below hV)
  have HC0 := Lib.hid hc0
  have hc1 : ∀ V, Below w1.heap.size w1 V → Calls Try.prog 44 #[.slice l.A a.labels.length l.c, .slice l'.A b.labels.length l'.c] V fun e w' => e = .returned (.bool true) ∧ Below V.heap.size V w' := fun V hV => by rw [← h2]; exact eqpair_any a.labels b.labels l.A l'.A l.c l'.c hs.2.1 V ((hr.lr.below b1).below hV) ((hq.lr.below b1).below hV)
  have HC1 := Lib.hid hc1
  have hc2 : ∀ V, Below w1.heap.size w1 V → Calls Try.prog 43 #[.slice c.A a.cidrs.length c.c, .slice c'.A b.cidrs.length c'.c] V fun e w' => e = .returned (.bool true) ∧ Below V.heap.size V w' := fun V hV => by rw [← h3]; exact eqstr_any a.cidrs b.cidrs c.A c'.A c.c c'.c hs.2.2.1 V ((hr.cr.below b1).below hV) ((hq.cr.below b1).below hV)
  have HC2 := Lib.hid hc2
  have hc3 : ∀ V, Below w1.heap.size w1 V → Calls Try.prog 45 #[.slice p.A a.fams.length p.c, .slice p'.A b.fams.length p'.c] V fun e w' => e = .returned (.bool false) ∧ Below V.heap.size V w' := fun V hV => by rw [← h4]; exact eqint_any a.fams b.fams p.A p'.A p.c p'.c hs.2.2.2.1 V ((hr.pr.below b1).below hV) ((hq.pr.below b1).below hV)
  have HC3 := Lib.hid hc3
  have HW := Lib.hid hw1
  have B1 := Lib.hid b1
  have lw : Hid (x < w1.heap.size ∧ y < w1.heap.size) := Lib.hid ⟨by rw [hx]; exact (Array.getElem?_eq_some_iff.1 p1).1, by rw [hy]; exact (Array.getElem?_eq_some_iff.1 q1).1⟩
  rw [← hx] at p1
  rw [← hy] at q1
  have P1 := Lib.hid p1
  have Q1 := Lib.hid q1
  clear b1 p1 q1 hw1 hr hq hs h0 hc0 h1 hc1 h2 hc2 h3 hc3 h4
  go_enter Try.func24, Try.ntmps24
  go_upto_region 1 with (fail)
  rw [← HW.out, ← hy, ← hx]
  clear hx hy
  refine wp_region_held_drew (S := fun V => V.heap[x]? = some (.cells (oc a f l c p i) 26 (0, 0)) ∧ V.heap[y]? = some (.cells (oc b f' l' c' p' i') 26 (0, 0)) ∧ Below w1.heap.size w1 V) (by kernel_rfl) ⟨P1.out, Q1.out, ⟨rfl, rfl, rfl, Nat.le_refl _, fun _ _ => rfl⟩⟩ (fun hS0 => ?_)
  refine tk 0 5 (.agg (oc a f l c p i)) ?_ (hv := by exact load_row_yields 26 (.tmp 2) rfl x rfl 26 (oc a f l c p i) (0, 0) _ (fun V hV => hV.1) Try.underlying26 rfl size32); (try simp only [s1, s2, s3]); refine tk 2 7 ((Value.agg (oc b f' l' c' p' i'))) ?_ (hv := by exact load_row_yields 26 (.tmp 3) rfl y rfl 26 (oc b f' l' c' p' i') (0, 0) _ (fun V hV => hV.2.1) Try.underlying26 rfl size32); (try simp only [s1, s2, s3])
  refine wpAnyH_ready (rs := [1]) (by kernel_rfl) (by simp) ?_
  refine AllReadyH.cons rfl (fun K hK => ?_) AllReadyH.nil
  rw [if_pos (by rfl)]
  go_simp
  go_at_call 42
  refine (flatten_any a f l c p i _).mono ?_
  rintro e wf ⟨rfl, hb1⟩
  dsimp only
  refine hK.out _ _ (keepS lw.out (by assumption) hb1) (fun hHeld => ?_)
  clear hK K; try simp only [Act.put, s1, s2, s3]
  refine wpAnyH_ready (rs := [3]) (by kernel_rfl) (by simp) ?_
  refine AllReadyH.cons rfl (fun K hK => ?_) AllReadyH.nil
  rw [if_pos (by rfl)]
  go_simp
  go_at_call 42
  refine (flatten_any b f' l' c' p' i' _).mono ?_
  rintro e wg ⟨rfl, hb3⟩
  dsimp only
  refine hK.out _ _ (keepS lw.out (by assumption) hb3) (fun hHeld => ?_)
  clear hK K; try simp only [Act.put, s1, s2, s3]
  refine tk 4 9 (.bool true) ?_; (try simp only [s1, s2, s3]); refine tk 5 10 (.bool true) ?_; (try simp only [s1, s2, s3]); refine tk 6 11 (.pointer (some ⟨x, 5, none⟩)) ?_; (try simp only [s1, s2, s3]); refine tk 7 12 (.slice f.A a.fins.length f.c) ?_ (hv := by (intro V hV; have hc := ka5 V hV.1; clear hV; go_simp; try rfl)); (try simp only [s1, s2, s3]); refine tk 8 13 (.pointer (some ⟨y, 5, none⟩)) ?_; (try simp only [s1, s2, s3]); refine tk 9 14 (.slice f'.A b.fins.length f'.c) ?_ (hv := by (intro V hV; have hc := kb5 V hV.2.1; clear hV; go_simp; try rfl)); (try simp only [s1, s2, s3])
  refine wpAnyH_ready (rs := [10]) (by kernel_rfl) (by simp) ?_
  refine AllReadyH.cons rfl (fun K hK => ?_) AllReadyH.nil
  rw [if_pos (by rfl)]
  go_simp
  go_at_call 43
  refine (HC0.out _ (And.right (And.right ‹_ ∧ _›))).mono ?_
  rintro e wq0 ⟨rfl, hb10⟩
  dsimp only
  refine hK.out _ _ (keepS lw.out (by assumption) hb10) (fun hHeld => ?_)
  clear hK K; try simp only [Act.put, s1, s2, s3]
  refine tk 11 16 (.bool true) ?_; (try simp only [s1, s2, s3]); refine tk 12 17 (.bool true) ?_; (try simp only [s1, s2, s3]); refine tk 13 18 (.pointer (some ⟨x, 6, none⟩)) ?_; (try simp only [s1, s2, s3]); refine tk 14 19 (.slice l.A a.labels.length l.c) ?_ (hv := by (intro V hV; have hc := ka6 V hV.1; clear hV; go_simp; try rfl)); (try simp only [s1, s2, s3]); refine tk 15 20 (.pointer (some ⟨y, 6, none⟩)) ?_; (try simp only [s1, s2, s3]); refine tk 16 21 (.slice l'.A b.labels.length l'.c) ?_ (hv := by (intro V hV; have hc := kb6 V hV.2.1; clear hV; go_simp; try rfl)); (try simp only [s1, s2, s3])
  refine wpAnyH_ready (rs := [17]) (by kernel_rfl) (by simp) ?_
  refine AllReadyH.cons rfl (fun K hK => ?_) AllReadyH.nil
  rw [if_pos (by rfl)]
  go_simp
  go_at_call 44
  refine (HC1.out _ (And.right (And.right ‹_ ∧ _›))).mono ?_
  rintro e wq1 ⟨rfl, hb17⟩
  dsimp only
  refine hK.out _ _ (keepS lw.out (by assumption) hb17) (fun hHeld => ?_)
  clear hK K; try simp only [Act.put, s1, s2, s3]
  refine tk 18 23 (.bool true) ?_; (try simp only [s1, s2, s3]); refine tk 19 24 (.bool true) ?_; (try simp only [s1, s2, s3]); refine tk 20 25 (.pointer (some ⟨x, 7, none⟩)) ?_; (try simp only [s1, s2, s3]); refine tk 21 26 (.slice c.A a.cidrs.length c.c) ?_ (hv := by (intro V hV; have hc := ka7 V hV.1; clear hV; go_simp; try rfl)); (try simp only [s1, s2, s3]); refine tk 22 27 (.pointer (some ⟨y, 7, none⟩)) ?_; (try simp only [s1, s2, s3]); refine tk 23 28 (.slice c'.A b.cidrs.length c'.c) ?_ (hv := by (intro V hV; have hc := kb7 V hV.2.1; clear hV; go_simp; try rfl)); (try simp only [s1, s2, s3])
  refine wpAnyH_ready (rs := [24]) (by kernel_rfl) (by simp) ?_
  refine AllReadyH.cons rfl (fun K hK => ?_) AllReadyH.nil
  rw [if_pos (by rfl)]
  go_simp
  go_at_call 43
  refine (HC2.out _ (And.right (And.right ‹_ ∧ _›))).mono ?_
  rintro e wq2 ⟨rfl, hb24⟩
  dsimp only
  refine hK.out _ _ (keepS lw.out (by assumption) hb24) (fun hHeld => ?_)
  clear hK K; try simp only [Act.put, s1, s2, s3]
  refine tk 25 30 (.bool true) ?_; (try simp only [s1, s2, s3]); refine tk 26 31 (.bool true) ?_; (try simp only [s1, s2, s3]); refine tk 27 32 (.pointer (some ⟨x, 11, none⟩)) ?_; (try simp only [s1, s2, s3]); refine tk 28 33 (.slice p.A a.fams.length p.c) ?_ (hv := by (intro V hV; have hc := ka11 V hV.1; clear hV; go_simp; try rfl)); (try simp only [s1, s2, s3]); refine tk 29 34 (.pointer (some ⟨y, 11, none⟩)) ?_; (try simp only [s1, s2, s3]); refine tk 30 35 (.slice p'.A b.fams.length p'.c) ?_ (hv := by (intro V hV; have hc := kb11 V hV.2.1; clear hV; go_simp; try rfl)); (try simp only [s1, s2, s3])
  refine wpAnyH_ready (rs := [31]) (by kernel_rfl) (by simp) ?_
  refine AllReadyH.cons rfl (fun K hK => ?_) AllReadyH.nil
  rw [if_pos (by rfl)]
  go_simp
  go_at_call 45
  refine (HC3.out _ (And.right (And.right ‹_ ∧ _›))).mono ?_
  rintro e wq3 ⟨rfl, hb31⟩
  dsimp only
  refine hK.out _ _ (keepS lw.out (by assumption) hb31) (fun hHeld => ?_)
  clear hK K; try simp only [Act.put, s1, s2, s3]
  refine tk 32 37 (.bool false) ?_; (try simp only [s1, s2, s3]); refine tk 33 38 (.bool false) ?_; (try simp only [s1, s2, s3]); refine ts 34 39 ?_; (try simp only [s1, s2, s3]); refine ts 35 40 ?_; (try simp only [s1, s2, s3]); refine ts 36 41 ?_; (try simp only [s1, s2, s3]); refine ts 37 42 ?_; (try simp only [s1, s2, s3]); refine ts 38 43 ?_; (try simp only [s1, s2, s3]); refine tk 39 44 (.bool false) ?_; (try simp only [s1, s2, s3]); refine tk 40 4 (.bool false) ?_; (try simp only [s1, s2, s3])
  refine wpAnyH_done (by kernel_rfl) ?_ _
  have HE := Lib.hid hHeld
  go_wp2
  go_ret
  exact ⟨rfl, B1.out.trans (belowLe (by have := B1.out.size; exact this) HE.out.2.2)⟩

set_option maxRecDepth 100000 in
set_option maxHeartbeats 4000000 in
theorem same5_any (a b : Ob) (f l c p i f' l' c' p' i' : Sl) (hs : a.fins.length ≤ 1000000 ∧ a.labels.length ≤ 1000000 ∧ a.cidrs.length ≤ 1000000 ∧ a.fams.length ≤ 1000000 ∧ a.ips.length ≤ 1000000) (w : World) (hr : RowsR w a f l c p i) (hq : RowsR w b f' l' c' p' i')
    (h0 : flatB a b = true) (h1 : decide (a.fins = b.fins) = true) (h2 : decide (a.labels = b.labels) = true) (h3 : decide (a.cidrs = b.cidrs) = true) (h4 : decide (a.fams = b.fams) = true) (h5 : decide (a.ips = b.ips) = false) :
    Calls Try.prog 24 #[.agg (oc a f l c p i), .agg (oc b f' l' c' p' i')] w fun e w' => e = .returned (.bool false) ∧ Below w.heap.size w w' := by
  obtain ⟨w1, hw1⟩ : ∃ w1, w1 = (w.alloc (.cells (oc a f l c p i) 26)).alloc (.cells (oc b f' l' c' p' i') 26) := ⟨_, rfl⟩
  have b1 : Below w.heap.size w w1 := by rw [hw1]; exact G.bthen (bel_alloc _ _) (bel_alloc _ _)
  have p1 : w1.heap[w.heap.size]? = some (.cells (oc a f l c p i) 26 (0, 0)) := by
    rw [hw1]; exact ((bel_alloc _ _).block _ (by simp)).trans (G.heap_new _ _)
  have q1 : w1.heap[w.heap.size + 1]? = some (.cells (oc b f' l' c' p' i') 26 (0, 0)) := by
    rw [hw1]
    have h2 := G.heap_new (w.alloc (.cells (oc a f l c p i) 26)) (.cells (oc b f' l' c' p' i') 26)
    rw [show (w.alloc (.cells (oc a f l c p i) 26)).heap.size = w.heap.size + 1 by simp] at h2
    exact h2
  obtain ⟨x, hx⟩ : ∃ x, x = w.heap.size := ⟨_, rfl⟩
  obtain ⟨y, hy⟩ : ∃ y, y = w.heap.size + 1 := ⟨_, rfl⟩
  have heq := run_eq_flat a b true h0
  obtain ⟨ka0, ka1, ka2, ka3, ka4, ka5, ka6, ka7, ka8, ka9, ka10, ka11, ka12, ka13, ka14, ka15, ka16, ka17, ka18⟩ := oc_at x a f l c p i
  obtain ⟨kb0, kb1, kb2, kb3, kb4, kb5, kb6, kb7, kb8, kb9, kb10, kb11, kb12, kb13, kb14, kb15, kb16, kb17, kb18⟩ := oc_at y b f' l' c' p' i'
  have hc0 : ∀ V, Below w1.heap.size w1 V → Calls Try.prog 43 #[.slice f.A a.fins.length f.c, .slice f'.A b.fins.length f'.c] V fun e w' => e = .returned (.bool true) ∧ Below V.heap.size V w' := fun V hV => by rw [← h1]; exact eqstr_any a.fins b.fins f.A f'.A f.c f'.c hs.1 V ((hr.fr.below b1).below hV) ((hq.fr.below b1).below hV)
  have HC0 := Lib.hid hc0
  have hc1 : ∀ V, Below w1.heap.size w1 V → Calls Try.prog 44 #[.slice l.A a.labels.length l.c, .slice l'.A b.labels.length l'.c] V fun e w' => e = .returned (.bool true) ∧ Below V.heap.size V w' := fun V hV => by rw [← h2]; exact eqpair_any a.labels b.labels l.A l'.A l.c l'.c hs.2.1 V ((hr.lr.below b1).below hV) ((hq.lr.below b1).below hV)
  have HC1 := Lib.hid hc1
  have hc2 : ∀ V, Below w1.heap.size w1 V → Calls Try.prog 43 #[.slice c.A a.cidrs.length c.c, .slice c'.A b.cidrs.length c'.c] V fun e w' => e = .returned (.bool true) ∧ Below V.heap.size V w' := fun V hV => by rw [← h3]; exact eqstr_any a.cidrs b.cidrs c.A c'.A c.c c'.c hs.2.2.1 V ((hr.cr.below b1).below hV) ((hq.cr.below b1).below hV)
  have HC2 := Lib.hid hc2
  have hc3 : ∀ V, Below w1.heap.size w1 V → Calls Try.prog 45 #[.slice p.A a.fams.length p.c, .slice p'.A b.fams.length p'.c] V fun e w' => e = .returned (.bool true) ∧ Below V.heap.size V w' := fun V hV => by rw [← h4]; exact eqint_any a.fams b.fams p.A p'.A p.c p'.c hs.2.2.2.1 V ((hr.pr.below b1).below hV) ((hq.pr.below b1).below hV)
  have HC3 := Lib.hid hc3
  have hc4 : ∀ V, Below w1.heap.size w1 V → Calls Try.prog 43 #[.slice i.A a.ips.length i.c, .slice i'.A b.ips.length i'.c] V fun e w' => e = .returned (.bool false) ∧ Below V.heap.size V w' := fun V hV => by rw [← h5]; exact eqstr_any a.ips b.ips i.A i'.A i.c i'.c hs.2.2.2.2 V ((hr.ir.below b1).below hV) ((hq.ir.below b1).below hV)
  have HC4 := Lib.hid hc4
  have HW := Lib.hid hw1
  have B1 := Lib.hid b1
  have lw : Hid (x < w1.heap.size ∧ y < w1.heap.size) := Lib.hid ⟨by rw [hx]; exact (Array.getElem?_eq_some_iff.1 p1).1, by rw [hy]; exact (Array.getElem?_eq_some_iff.1 q1).1⟩
  rw [← hx] at p1
  rw [← hy] at q1
  have P1 := Lib.hid p1
  have Q1 := Lib.hid q1
  clear b1 p1 q1 hw1 hr hq hs h0 hc0 h1 hc1 h2 hc2 h3 hc3 h4 hc4 h5
  go_enter Try.func24, Try.ntmps24
  go_upto_region 1 with (fail)
  rw [← HW.out, ← hy, ← hx]
  clear hx hy
  refine wp_region_held_drew (S := fun V => V.heap[x]? = some (.cells (oc a f l c p i) 26 (0, 0)) ∧ V.heap[y]? = some (.cells (oc b f' l' c' p' i') 26 (0, 0)) ∧ Below w1.heap.size w1 V) (by kernel_rfl) ⟨P1.out, Q1.out, ⟨rfl, rfl, rfl, Nat.le_refl _, fun _ _ => rfl⟩⟩ (fun hS0 => ?_)
  refine tk 0 5 (.agg (oc a f l c p i)) ?_ (hv := by exact load_row_yields 26 (.tmp 2) rfl x rfl 26 (oc a f l c p i) (0, 0) _ (fun V hV => hV.1) Try.underlying26 rfl size32); (try simp only [s1, s2, s3]); refine tk 2 7 ((Value.agg (oc b f' l' c' p' i'))) ?_ (hv := by exact load_row_yields 26 (.tmp 3) rfl y rfl 26 (oc b f' l' c' p' i') (0, 0) _ (fun V hV => hV.2.1) Try.underlying26 rfl size32); (try simp only [s1, s2, s3])
  refine wpAnyH_ready (rs := [1]) (by kernel_rfl) (by simp) ?_
  refine AllReadyH.cons rfl (fun K hK => ?_) AllReadyH.nil
  rw [if_pos (by rfl)]
  go_simp
  go_at_call 42
  refine (flatten_any a f l c p i _).mono ?_
  rintro e wf ⟨rfl, hb1⟩
  dsimp only
  refine hK.out _ _ (keepS lw.out (by assumption) hb1) (fun hHeld => ?_)
  clear hK K; try simp only [Act.put, s1, s2, s3]
  refine wpAnyH_ready (rs := [3]) (by kernel_rfl) (by simp) ?_
  refine AllReadyH.cons rfl (fun K hK => ?_) AllReadyH.nil
  rw [if_pos (by rfl)]
  go_simp
  go_at_call 42
  refine (flatten_any b f' l' c' p' i' _).mono ?_
  rintro e wg ⟨rfl, hb3⟩
  dsimp only
  refine hK.out _ _ (keepS lw.out (by assumption) hb3) (fun hHeld => ?_)
  clear hK K; try simp only [Act.put, s1, s2, s3]
  refine tk 4 9 (.bool true) ?_; (try simp only [s1, s2, s3]); refine tk 5 10 (.bool true) ?_; (try simp only [s1, s2, s3]); refine tk 6 11 (.pointer (some ⟨x, 5, none⟩)) ?_; (try simp only [s1, s2, s3]); refine tk 7 12 (.slice f.A a.fins.length f.c) ?_ (hv := by (intro V hV; have hc := ka5 V hV.1; clear hV; go_simp; try rfl)); (try simp only [s1, s2, s3]); refine tk 8 13 (.pointer (some ⟨y, 5, none⟩)) ?_; (try simp only [s1, s2, s3]); refine tk 9 14 (.slice f'.A b.fins.length f'.c) ?_ (hv := by (intro V hV; have hc := kb5 V hV.2.1; clear hV; go_simp; try rfl)); (try simp only [s1, s2, s3])
  refine wpAnyH_ready (rs := [10]) (by kernel_rfl) (by simp) ?_
  refine AllReadyH.cons rfl (fun K hK => ?_) AllReadyH.nil
  rw [if_pos (by rfl)]
  go_simp
  go_at_call 43
  refine (HC0.out _ (And.right (And.right ‹_ ∧ _›))).mono ?_
  rintro e wq0 ⟨rfl, hb10⟩
  dsimp only
  refine hK.out _ _ (keepS lw.out (by assumption) hb10) (fun hHeld => ?_)
  clear hK K; try simp only [Act.put, s1, s2, s3]
  refine tk 11 16 (.bool true) ?_; (try simp only [s1, s2, s3]); refine tk 12 17 (.bool true) ?_; (try simp only [s1, s2, s3]); refine tk 13 18 (.pointer (some ⟨x, 6, none⟩)) ?_; (try simp only [s1, s2, s3]); refine tk 14 19 (.slice l.A a.labels.length l.c) ?_ (hv := by (intro V hV; have hc := ka6 V hV.1; clear hV; go_simp; try rfl)); (try simp only [s1, s2, s3]); refine tk 15 20 (.pointer (some ⟨y, 6, none⟩)) ?_; (try simp only [s1, s2, s3]); refine tk 16 21 (.slice l'.A b.labels.length l'.c) ?_ (hv := by (intro V hV; have hc := kb6 V hV.2.1; clear hV; go_simp; try rfl)); (try simp only [s1, s2, s3])
  refine wpAnyH_ready (rs := [17]) (by kernel_rfl) (by simp) ?_
  refine AllReadyH.cons rfl (fun K hK => ?_) AllReadyH.nil
  rw [if_pos (by rfl)]
  go_simp
  go_at_call 44
  refine (HC1.out _ (And.right (And.right ‹_ ∧ _›))).mono ?_
  rintro e wq1 ⟨rfl, hb17⟩
  dsimp only
  refine hK.out _ _ (keepS lw.out (by assumption) hb17) (fun hHeld => ?_)
  clear hK K; try simp only [Act.put, s1, s2, s3]
  refine tk 18 23 (.bool true) ?_; (try simp only [s1, s2, s3]); refine tk 19 24 (.bool true) ?_; (try simp only [s1, s2, s3]); refine tk 20 25 (.pointer (some ⟨x, 7, none⟩)) ?_; (try simp only [s1, s2, s3]); refine tk 21 26 (.slice c.A a.cidrs.length c.c) ?_ (hv := by (intro V hV; have hc := ka7 V hV.1; clear hV; go_simp; try rfl)); (try simp only [s1, s2, s3]); refine tk 22 27 (.pointer (some ⟨y, 7, none⟩)) ?_; (try simp only [s1, s2, s3]); refine tk 23 28 (.slice c'.A b.cidrs.length c'.c) ?_ (hv := by (intro V hV; have hc := kb7 V hV.2.1; clear hV; go_simp; try rfl)); (try simp only [s1, s2, s3])
  refine wpAnyH_ready (rs := [24]) (by kernel_rfl) (by simp) ?_
  refine AllReadyH.cons rfl (fun K hK => ?_) AllReadyH.nil
  rw [if_pos (by rfl)]
  go_simp
  go_at_call 43
  refine (HC2.out _ (And.right (And.right ‹_ ∧ _›))).mono ?_
  rintro e wq2 ⟨rfl, hb24⟩
  dsimp only
  refine hK.out _ _ (keepS lw.out (by assumption) hb24) (fun hHeld => ?_)
  clear hK K; try simp only [Act.put, s1, s2, s3]
  refine tk 25 30 (.bool true) ?_; (try simp only [s1, s2, s3]); refine tk 26 31 (.bool true) ?_; (try simp only [s1, s2, s3]); refine tk 27 32 (.pointer (some ⟨x, 11, none⟩)) ?_; (try simp only [s1, s2, s3]); refine tk 28 33 (.slice p.A a.fams.length p.c) ?_ (hv := by (intro V hV; have hc := ka11 V hV.1; clear hV; go_simp; try rfl)); (try simp only [s1, s2, s3]); refine tk 29 34 (.pointer (some ⟨y, 11, none⟩)) ?_; (try simp only [s1, s2, s3]); refine tk 30 35 (.slice p'.A b.fams.length p'.c) ?_ (hv := by (intro V hV; have hc := kb11 V hV.2.1; clear hV; go_simp; try rfl)); (try simp only [s1, s2, s3])
  refine wpAnyH_ready (rs := [31]) (by kernel_rfl) (by simp) ?_
  refine AllReadyH.cons rfl (fun K hK => ?_) AllReadyH.nil
  rw [if_pos (by rfl)]
  go_simp
  go_at_call 45
  refine (HC3.out _ (And.right (And.right ‹_ ∧ _›))).mono ?_
  rintro e wq3 ⟨rfl, hb31⟩
  dsimp only
  refine hK.out _ _ (keepS lw.out (by assumption) hb31) (fun hHeld => ?_)
  clear hK K; try simp only [Act.put, s1, s2, s3]
  refine tk 32 37 (.bool true) ?_; (try simp only [s1, s2, s3]); refine tk 33 38 (.bool true) ?_; (try simp only [s1, s2, s3]); refine tk 34 39 (.pointer (some ⟨x, 12, none⟩)) ?_; (try simp only [s1, s2, s3]); refine tk 35 40 (.slice i.A a.ips.length i.c) ?_ (hv := by (intro V hV; have hc := ka12 V hV.1; clear hV; go_simp; try rfl)); (try simp only [s1, s2, s3]); refine tk 36 41 (.pointer (some ⟨y, 12, none⟩)) ?_; (try simp only [s1, s2, s3]); refine tk 37 42 (.slice i'.A b.ips.length i'.c) ?_ (hv := by (intro V hV; have hc := kb12 V hV.2.1; clear hV; go_simp; try rfl)); (try simp only [s1, s2, s3])
  refine wpAnyH_ready (rs := [38]) (by kernel_rfl) (by simp) ?_
  refine AllReadyH.cons rfl (fun K hK => ?_) AllReadyH.nil
  rw [if_pos (by rfl)]
  go_simp
  go_at_call 43
  refine (HC4.out _ (And.right (And.right ‹_ ∧ _›))).mono ?_
  rintro e wq4 ⟨rfl, hb38⟩
  dsimp only
  refine hK.out _ _ (keepS lw.out (by assumption) hb38) (fun hHeld => ?_)
  clear hK K; try simp only [Act.put, s1, s2, s3]
  refine tk 39 44 (.bool false) ?_; (try simp only [s1, s2, s3]); refine tk 40 4 (.bool false) ?_; (try simp only [s1, s2, s3])
  refine wpAnyH_done (by kernel_rfl) ?_ _
  have HE := Lib.hid hHeld
  go_wp2
  go_ret
  exact ⟨rfl, B1.out.trans (belowLe (by have := B1.out.size; exact this) HE.out.2.2)⟩

set_option maxRecDepth 100000 in
set_option maxHeartbeats 4000000 in
theorem same6_any (a b : Ob) (f l c p i f' l' c' p' i' : Sl) (hs : a.fins.length ≤ 1000000 ∧ a.labels.length ≤ 1000000 ∧ a.cidrs.length ≤ 1000000 ∧ a.fams.length ≤ 1000000 ∧ a.ips.length ≤ 1000000) (w : World) (hr : RowsR w a f l c p i) (hq : RowsR w b f' l' c' p' i')
    (h0 : flatB a b = true) (h1 : decide (a.fins = b.fins) = true) (h2 : decide (a.labels = b.labels) = true) (h3 : decide (a.cidrs = b.cidrs) = true) (h4 : decide (a.fams = b.fams) = true) (h5 : decide (a.ips = b.ips) = true) :
    Calls Try.prog 24 #[.agg (oc a f l c p i), .agg (oc b f' l' c' p' i')] w fun e w' => e = .returned (.bool true) ∧ Below w.heap.size w w' := by
  obtain ⟨w1, hw1⟩ : ∃ w1, w1 = (w.alloc (.cells (oc a f l c p i) 26)).alloc (.cells (oc b f' l' c' p' i') 26) := ⟨_, rfl⟩
  have b1 : Below w.heap.size w w1 := by rw [hw1]; exact G.bthen (bel_alloc _ _) (bel_alloc _ _)
  have p1 : w1.heap[w.heap.size]? = some (.cells (oc a f l c p i) 26 (0, 0)) := by
    rw [hw1]; exact ((bel_alloc _ _).block _ (by simp)).trans (G.heap_new _ _)
  have q1 : w1.heap[w.heap.size + 1]? = some (.cells (oc b f' l' c' p' i') 26 (0, 0)) := by
    rw [hw1]
    have h2 := G.heap_new (w.alloc (.cells (oc a f l c p i) 26)) (.cells (oc b f' l' c' p' i') 26)
    rw [show (w.alloc (.cells (oc a f l c p i) 26)).heap.size = w.heap.size + 1 by simp] at h2
    exact h2
  obtain ⟨x, hx⟩ : ∃ x, x = w.heap.size := ⟨_, rfl⟩
  obtain ⟨y, hy⟩ : ∃ y, y = w.heap.size + 1 := ⟨_, rfl⟩
  have heq := run_eq_flat a b true h0
  obtain ⟨ka0, ka1, ka2, ka3, ka4, ka5, ka6, ka7, ka8, ka9, ka10, ka11, ka12, ka13, ka14, ka15, ka16, ka17, ka18⟩ := oc_at x a f l c p i
  obtain ⟨kb0, kb1, kb2, kb3, kb4, kb5, kb6, kb7, kb8, kb9, kb10, kb11, kb12, kb13, kb14, kb15, kb16, kb17, kb18⟩ := oc_at y b f' l' c' p' i'
  have hc0 : ∀ V, Below w1.heap.size w1 V → Calls Try.prog 43 #[.slice f.A a.fins.length f.c, .slice f'.A b.fins.length f'.c] V fun e w' => e = .returned (.bool true) ∧ Below V.heap.size V w' := fun V hV => by rw [← h1]; exact eqstr_any a.fins b.fins f.A f'.A f.c f'.c hs.1 V ((hr.fr.below b1).below hV) ((hq.fr.below b1).below hV)
  have HC0 := Lib.hid hc0
  have hc1 : ∀ V, Below w1.heap.size w1 V → Calls Try.prog 44 #[.slice l.A a.labels.length l.c, .slice l'.A b.labels.length l'.c] V fun e w' => e = .returned (.bool true) ∧ Below V.heap.size V w' := fun V hV => by rw [← h2]; exact eqpair_any a.labels b.labels l.A l'.A l.c l'.c hs.2.1 V ((hr.lr.below b1).below hV) ((hq.lr.below b1).below hV)
  have HC1 := Lib.hid hc1
  have hc2 : ∀ V, Below w1.heap.size w1 V → Calls Try.prog 43 #[.slice c.A a.cidrs.length c.c, .slice c'.A b.cidrs.length c'.c] V fun e w' => e = .returned (.bool true) ∧ Below V.heap.size V w' := fun V hV => by rw [← h3]; exact eqstr_any a.cidrs b.cidrs c.A c'.A c.c c'.c hs.2.2.1 V ((hr.cr.below b1).below hV) ((hq.cr.below b1).below hV)
  have HC2 := Lib.hid hc2
  have hc3 : ∀ V, Below w1.heap.size w1 V → Calls Try.prog 45 #[.slice p.A a.fams.length p.c, .slice p'.A b.fams.length p'.c] V fun e w' => e = .returned (.bool true) ∧ Below V.heap.size V w' := fun V hV => by rw [← h4]; exact eqint_any a.fams b.fams p.A p'.A p.c p'.c hs.2.2.2.1 V ((hr.pr.below b1).below hV) ((hq.pr.below b1).below hV)
  have HC3 := Lib.hid hc3
  have hc4 : ∀ V, Below w1.heap.size w1 V → Calls Try.prog 43 #[.slice i.A a.ips.length i.c, .slice i'.A b.ips.length i'.c] V fun e w' => e = .returned (.bool true) ∧ Below V.heap.size V w' := fun V hV => by rw [← h5]; exact eqstr_any a.ips b.ips i.A i'.A i.c i'.c hs.2.2.2.2 V ((hr.ir.below b1).below hV) ((hq.ir.below b1).below hV)
  have HC4 := Lib.hid hc4
  have HW := Lib.hid hw1
  have B1 := Lib.hid b1
  have lw : Hid (x < w1.heap.size ∧ y < w1.heap.size) := Lib.hid ⟨by rw [hx]; exact (Array.getElem?_eq_some_iff.1 p1).1, by rw [hy]; exact (Array.getElem?_eq_some_iff.1 q1).1⟩
  rw [← hx] at p1
  rw [← hy] at q1
  have P1 := Lib.hid p1
  have Q1 := Lib.hid q1
  clear b1 p1 q1 hw1 hr hq hs h0 hc0 h1 hc1 h2 hc2 h3 hc3 h4 hc4 h5
  go_enter Try.func24, Try.ntmps24
  go_upto_region 1 with (fail)
  rw [← HW.out, ← hy, ← hx]
  clear hx hy
  refine wp_region_held_drew (S := fun V => V.heap[x]? = some (.cells (oc a f l c p i) 26 (0, 0)) ∧ V.heap[y]? = some (.cells (oc b f' l' c' p' i') 26 (0, 0)) ∧ Below w1.heap.size w1 V) (by kernel_rfl) ⟨P1.out, Q1.out, ⟨rfl, rfl, rfl, Nat.le_refl _, fun _ _ => rfl⟩⟩ (fun hS0 => ?_)
  refine tk 0 5 (.agg (oc a f l c p i)) ?_ (hv := by exact load_row_yields 26 (.tmp 2) rfl x rfl 26 (oc a f l c p i) (0, 0) _ (fun V hV => hV.1) Try.underlying26 rfl size32); (try simp only [s1, s2, s3]); refine tk 2 7 ((Value.agg (oc b f' l' c' p' i'))) ?_ (hv := by exact load_row_yields 26 (.tmp 3) rfl y rfl 26 (oc b f' l' c' p' i') (0, 0) _ (fun V hV => hV.2.1) Try.underlying26 rfl size32); (try simp only [s1, s2, s3])
  refine wpAnyH_ready (rs := [1]) (by kernel_rfl) (by simp) ?_
  refine AllReadyH.cons rfl (fun K hK => ?_) AllReadyH.nil
  rw [if_pos (by rfl)]
  go_simp
  go_at_call 42
  refine (flatten_any a f l c p i _).mono ?_
  rintro e wf ⟨rfl, hb1⟩
  dsimp only
  refine hK.out _ _ (keepS lw.out (by assumption) hb1) (fun hHeld => ?_)
  clear hK K; try simp only [Act.put, s1, s2, s3]
  refine wpAnyH_ready (rs := [3]) (by kernel_rfl) (by simp) ?_
  refine AllReadyH.cons rfl (fun K hK => ?_) AllReadyH.nil
  rw [if_pos (by rfl)]
  go_simp
  go_at_call 42
  refine (flatten_any b f' l' c' p' i' _).mono ?_
  rintro e wg ⟨rfl, hb3⟩
  dsimp only
  refine hK.out _ _ (keepS lw.out (by assumption) hb3) (fun hHeld => ?_)
  clear hK K; try simp only [Act.put, s1, s2, s3]
  refine tk 4 9 (.bool true) ?_; (try simp only [s1, s2, s3]); refine tk 5 10 (.bool true) ?_; (try simp only [s1, s2, s3]); refine tk 6 11 (.pointer (some ⟨x, 5, none⟩)) ?_; (try simp only [s1, s2, s3]); refine tk 7 12 (.slice f.A a.fins.length f.c) ?_ (hv := by (intro V hV; have hc := ka5 V hV.1; clear hV; go_simp; try rfl)); (try simp only [s1, s2, s3]); refine tk 8 13 (.pointer (some ⟨y, 5, none⟩)) ?_; (try simp only [s1, s2, s3]); refine tk 9 14 (.slice f'.A b.fins.length f'.c) ?_ (hv := by (intro V hV; have hc := kb5 V hV.2.1; clear hV; go_simp; try rfl)); (try simp only [s1, s2, s3])
  refine wpAnyH_ready (rs := [10]) (by kernel_rfl) (by simp) ?_
  refine AllReadyH.cons rfl (fun K hK => ?_) AllReadyH.nil
  rw [if_pos (by rfl)]
  go_simp
  go_at_call 43
  refine (HC0.out _ (And.right (And.right ‹_ ∧ _›))).mono ?_
  rintro e wq0 ⟨rfl, hb10⟩
  dsimp only
  refine hK.out _ _ (keepS lw.out (by assumption) hb10) (fun hHeld => ?_)
  clear hK K; try simp only [Act.put, s1, s2, s3]
  refine tk 11 16 (.bool true) ?_; (try simp only [s1, s2, s3]); refine tk 12 17 (.bool true) ?_; (try simp only [s1, s2, s3]); refine tk 13 18 (.pointer (some ⟨x, 6, none⟩)) ?_; (try simp only [s1, s2, s3]); refine tk 14 19 (.slice l.A a.labels.length l.c) ?_ (hv := by (intro V hV; have hc := ka6 V hV.1; clear hV; go_simp; try rfl)); (try simp only [s1, s2, s3]); refine tk 15 20 (.pointer (some ⟨y, 6, none⟩)) ?_; (try simp only [s1, s2, s3]); refine tk 16 21 (.slice l'.A b.labels.length l'.c) ?_ (hv := by (intro V hV; have hc := kb6 V hV.2.1; clear hV; go_simp; try rfl)); (try simp only [s1, s2, s3])
  refine wpAnyH_ready (rs := [17]) (by kernel_rfl) (by simp) ?_
  refine AllReadyH.cons rfl (fun K hK => ?_) AllReadyH.nil
  rw [if_pos (by rfl)]
  go_simp
  go_at_call 44
  refine (HC1.out _ (And.right (And.right ‹_ ∧ _›))).mono ?_
  rintro e wq1 ⟨rfl, hb17⟩
  dsimp only
  refine hK.out _ _ (keepS lw.out (by assumption) hb17) (fun hHeld => ?_)
  clear hK K; try simp only [Act.put, s1, s2, s3]
  refine tk 18 23 (.bool true) ?_; (try simp only [s1, s2, s3]); refine tk 19 24 (.bool true) ?_; (try simp only [s1, s2, s3]); refine tk 20 25 (.pointer (some ⟨x, 7, none⟩)) ?_; (try simp only [s1, s2, s3]); refine tk 21 26 (.slice c.A a.cidrs.length c.c) ?_ (hv := by (intro V hV; have hc := ka7 V hV.1; clear hV; go_simp; try rfl)); (try simp only [s1, s2, s3]); refine tk 22 27 (.pointer (some ⟨y, 7, none⟩)) ?_; (try simp only [s1, s2, s3]); refine tk 23 28 (.slice c'.A b.cidrs.length c'.c) ?_ (hv := by (intro V hV; have hc := kb7 V hV.2.1; clear hV; go_simp; try rfl)); (try simp only [s1, s2, s3])
  refine wpAnyH_ready (rs := [24]) (by kernel_rfl) (by simp) ?_
  refine AllReadyH.cons rfl (fun K hK => ?_) AllReadyH.nil
  rw [if_pos (by rfl)]
  go_simp
  go_at_call 43
  refine (HC2.out _ (And.right (And.right ‹_ ∧ _›))).mono ?_
  rintro e wq2 ⟨rfl, hb24⟩
  dsimp only
  refine hK.out _ _ (keepS lw.out (by assumption) hb24) (fun hHeld => ?_)
  clear hK K; try simp only [Act.put, s1, s2, s3]
  refine tk 25 30 (.bool true) ?_; (try simp only [s1, s2, s3]); refine tk 26 31 (.bool true) ?_; (try simp only [s1, s2, s3]); refine tk 27 32 (.pointer (some ⟨x, 11, none⟩)) ?_; (try simp only [s1, s2, s3]); refine tk 28 33 (.slice p.A a.fams.length p.c) ?_ (hv := by (intro V hV; have hc := ka11 V hV.1; clear hV; go_simp; try rfl)); (try simp only [s1, s2, s3]); refine tk 29 34 (.pointer (some ⟨y, 11, none⟩)) ?_; (try simp only [s1, s2, s3]); refine tk 30 35 (.slice p'.A b.fams.length p'.c) ?_ (hv := by (intro V hV; have hc := kb11 V hV.2.1; clear hV; go_simp; try rfl)); (try simp only [s1, s2, s3])
  refine wpAnyH_ready (rs := [31]) (by kernel_rfl) (by simp) ?_
  refine AllReadyH.cons rfl (fun K hK => ?_) AllReadyH.nil
  rw [if_pos (by rfl)]
  go_simp
  go_at_call 45
  refine (HC3.out _ (And.right (And.right ‹_ ∧ _›))).mono ?_
  rintro e wq3 ⟨rfl, hb31⟩
  dsimp only
  refine hK.out _ _ (keepS lw.out (by assumption) hb31) (fun hHeld => ?_)
  clear hK K; try simp only [Act.put, s1, s2, s3]
  refine tk 32 37 (.bool true) ?_; (try simp only [s1, s2, s3]); refine tk 33 38 (.bool true) ?_; (try simp only [s1, s2, s3]); refine tk 34 39 (.pointer (some ⟨x, 12, none⟩)) ?_; (try simp only [s1, s2, s3]); refine tk 35 40 (.slice i.A a.ips.length i.c) ?_ (hv := by (intro V hV; have hc := ka12 V hV.1; clear hV; go_simp; try rfl)); (try simp only [s1, s2, s3]); refine tk 36 41 (.pointer (some ⟨y, 12, none⟩)) ?_; (try simp only [s1, s2, s3]); refine tk 37 42 (.slice i'.A b.ips.length i'.c) ?_ (hv := by (intro V hV; have hc := kb12 V hV.2.1; clear hV; go_simp; try rfl)); (try simp only [s1, s2, s3])
  refine wpAnyH_ready (rs := [38]) (by kernel_rfl) (by simp) ?_
  refine AllReadyH.cons rfl (fun K hK => ?_) AllReadyH.nil
  rw [if_pos (by rfl)]
  go_simp
  go_at_call 43
  refine (HC4.out _ (And.right (And.right ‹_ ∧ _›))).mono ?_
  rintro e wq4 ⟨rfl, hb38⟩
  dsimp only
  refine hK.out _ _ (keepS lw.out (by assumption) hb38) (fun hHeld => ?_)
  clear hK K; try simp only [Act.put, s1, s2, s3]
  refine tk 39 44 (.bool true) ?_; (try simp only [s1, s2, s3]); refine tk 40 4 (.bool true) ?_; (try simp only [s1, s2, s3])
  refine wpAnyH_done (by kernel_rfl) ?_ _
  have HE := Lib.hid hHeld
  go_wp2
  go_ret
  exact ⟨rfl, B1.out.trans (belowLe (by have := B1.out.size; exact this) HE.out.2.2)⟩
theorem same_any (a b : Ob) (f l c p i f' l' c' p' i' : Sl) (hs : a.fins.length ≤ 1000000 ∧ a.labels.length ≤ 1000000 ∧ a.cidrs.length ≤ 1000000 ∧ a.fams.length ≤ 1000000 ∧ a.ips.length ≤ 1000000) (w : World) (hr : RowsR w a f l c p i) (hq : RowsR w b f' l' c' p' i') :
    Calls Try.prog 24 #[.agg (oc a f l c p i), .agg (oc b f' l' c' p' i')] w fun e w' => e = .returned (.bool (sameB a b)) ∧ Below w.heap.size w w' := by
  unfold sameB
  cases h0 : flatB a b
  · rw [Bool.false_and]; exact same0_any a b f l c p i f' l' c' p' i' hs w hr hq h0
  rw [Bool.true_and]
  cases h1 : decide (a.fins = b.fins)
  · rw [Bool.false_and]; exact same1_any a b f l c p i f' l' c' p' i' hs w hr hq h0 h1
  rw [Bool.true_and]
  cases h2 : decide (a.labels = b.labels)
  · rw [Bool.false_and]; exact same2_any a b f l c p i f' l' c' p' i' hs w hr hq h0 h1 h2
  rw [Bool.true_and]
  cases h3 : decide (a.cidrs = b.cidrs)
  · rw [Bool.false_and]; exact same3_any a b f l c p i f' l' c' p' i' hs w hr hq h0 h1 h2 h3
  rw [Bool.true_and]
  cases h4 : decide (a.fams = b.fams)
  · rw [Bool.false_and]; exact same4_any a b f l c p i f' l' c' p' i' hs w hr hq h0 h1 h2 h3 h4
  rw [Bool.true_and]
  cases h5 : decide (a.ips = b.ips)
  · exact same5_any a b f l c p i f' l' c' p' i' hs w hr hq h0 h1 h2 h3 h4 h5
  · exact same6_any a b f l c p i f' l' c' p' i' hs w hr hq h0 h1 h2 h3 h4 h5
end Go.Proofs.Ytmbmnldheilffaa
