/- Objects held against each other. -/
import Derived.Test.YtolndeolehkjoaaEq2
namespace Go.Proofs.Ytolndeolehkjoaa
set_option linter.unusedVariables false
set_option linter.unusedSimpArgs false
open Go.RowKit CodP
structure RowsR (w : World) (o : Ob) (f l c p i : Sl) : Prop where
  fr : RowR w f.A (o.fins.flatMap cS)
  lr : RowR w l.A (o.labels.flatMap cP)
  cr : RowR w c.A (o.cidrs.flatMap cS)
  pr : RowR w p.A (o.fams.flatMap cI)
  ir : RowR w i.A (o.ips.flatMap cS)
theorem RowsR.below {w w1 : World} {o : Ob} {f l c p i : Sl} (h : RowsR w o f l c p i) (hb : Below w.heap.size w w1) : RowsR w1 o f l c p i :=
  ⟨h.fr.below hb, h.lr.below hb, h.cr.below hb, h.pr.below hb, h.ir.below hb⟩
theorem RowsR.of_owns {w : World} {B : Nat} {o : Ob} {f l c p i : Sl} (h : ObOwn w B o f l c p i) : RowsR w o f l c p i := by
  have key : ∀ {e size n : Nat} {A : Option Addr} {m : Nat} {cs : List Value}, w.ownsRow B e size (.slice A n m) n cs → RowR w A cs := fun {e size n A m cs} h j u hj => by
    obtain ⟨_, A', c', hv, _, _, hc⟩ := G.HasRow.of_owns h
    injection hv with h1 h2 h3
    subst h1
    exact hc j u hj
  exact ⟨key h.fr, key h.lr, key h.cr, key h.pr, key h.ir⟩
def sameB (a b : Ob) : Bool := flatB a b && (decide (a.fins = b.fins) && (decide (a.labels = b.labels) && (decide (a.cidrs = b.cidrs) && (decide (a.fams = b.fams) && decide (a.ips = b.ips)))))
section
variable {P : Program} {ops : Array Oper} {Q : Exit → Act → World → Prop} {md : Region.Mode} {S : World → Prop}
theorem takeS {i : Nat} {oi : Oper} {fuel : Nat} {listed : Array Bool} {a : Act} {w : World} (t : Nat) (hi : ops[i]? = some oi) (hd : oi.dst = some t)
    (hs : Region.noSelect ops = true) (hf : Region.free md ops listed i = true) (hr : (Region.ready md ops listed).contains i = true)
    (hQ : ∀ c a w, Q (.panic c) (a.put oi.dst undef) w → Q (.panic c) a w) (hy : Region.wanted oi (yielded ops a.tmps) = false) (hS : S w)
    (h : wpAnyH P md ops Q S fuel (listed.setIfInBounds i true) ⟨a.tmps.setIfInBounds t undef, a.defers⟩ w) : wpAnyH P md ops Q S (fuel + 1) listed a w :=
  wpAnyH_take hi hs hf hr hQ (.inr ⟨hy, rfl⟩) hS (by rw [hd]; exact h)
end
theorem keepS {w1 V V' : World} {x y : Nat} {A B : Obj} (hl : x < w1.heap.size ∧ y < w1.heap.size) (h : V.heap[x]? = some A ∧ V.heap[y]? = some B ∧ Below w1.heap.size w1 V) (hb : Below V.heap.size V V') : V'.heap[x]? = some A ∧ V'.heap[y]? = some B ∧ Below w1.heap.size w1 V' :=
  ⟨(hb.block x (Nat.lt_of_lt_of_le hl.1 h.2.2.size)).trans h.1, (hb.block y (Nat.lt_of_lt_of_le hl.2 h.2.2.size)).trans h.2.1, G.bthen h.2.2 hb⟩
theorem belowLe {B : Nat} {w1 w2 : World} (hB : B ≤ w1.heap.size) (h : Below w1.heap.size w1 w2) : Below B w1 w2 :=
  ⟨h.os, h.tape, h.output, h.size, fun i hi => h.block i (Nat.lt_of_lt_of_le hi hB)⟩

set_option maxRecDepth 100000 in
set_option maxHeartbeats 4000000 in
theorem same0_any (a b : Ob) (f l c p i f' l' c' p' i' : Sl) (hs : a.fins.length ≤ 1000000 ∧ a.labels.length ≤ 1000000 ∧ a.cidrs.length ≤ 1000000 ∧ a.fams.length ≤ 1000000 ∧ a.ips.length ≤ 1000000) (w : World) (hr : RowsR w a f l c p i) (hq : RowsR w b f' l' c' p' i')
    (h0 : flatB a b = false) :
    Calls Try.prog 49 #[.agg (oc a f l c p i), .agg (oc b f' l' c' p' i')] w fun e w' => e = .returned (.bool false) ∧ Below w.heap.size w w' := by
  obtain ⟨w1, hw1⟩ : ∃ w1, w1 = (w.alloc (.cells (oc a f l c p i) 32)).alloc (.cells (oc b f' l' c' p' i') 32) := ⟨_, rfl⟩
  have b1 : Below w.heap.size w w1 := by rw [hw1]; exact G.bthen (bel_alloc _ _) (bel_alloc _ _)
  have p1 : w1.heap[w.heap.size]? = some (.cells (oc a f l c p i) 32 (0, 0)) := by
    rw [hw1]; exact ((bel_alloc _ _).block _ (by simp)).trans (G.heap_new _ _)
  have q1 : w1.heap[w.heap.size + 1]? = some (.cells (oc b f' l' c' p' i') 32 (0, 0)) := by
    rw [hw1]
    have h2 := G.heap_new (w.alloc (.cells (oc a f l c p i) 32)) (.cells (oc b f' l' c' p' i') 32)
    rw [show (w.alloc (.cells (oc a f l c p i) 32)).heap.size = w.heap.size + 1 by simp] at h2
    exact h2
  obtain ⟨x, hx⟩ : ∃ x, x = w.heap.size := ⟨_, rfl⟩
  obtain ⟨y, hy⟩ : ∃ y, y = w.heap.size + 1 := ⟨_, rfl⟩
  have heq := run_eq_flat a b false h0
  have ka0 : ∀ V : World, V.heap[x]? = some (.cells (oc a f l c p i) 32 (0, 0)) → V.cell? ⟨x, 0, none⟩ = some (.int .i64 a.kind) := fun V hV => by simp [World.cell?, hV, oc]
  have kb0 : ∀ V : World, V.heap[y]? = some (.cells (oc b f' l' c' p' i') 32 (0, 0)) → V.cell? ⟨y, 0, none⟩ = some (.int .i64 b.kind) := fun V hV => by simp [World.cell?, hV, oc]
  have ka1 : ∀ V : World, V.heap[x]? = some (.cells (oc a f l c p i) 32 (0, 0)) → V.cell? ⟨x, 1, none⟩ = some (.string a.name) := fun V hV => by simp [World.cell?, hV, oc]
  have kb1 : ∀ V : World, V.heap[y]? = some (.cells (oc b f' l' c' p' i') 32 (0, 0)) → V.cell? ⟨y, 1, none⟩ = some (.string b.name) := fun V hV => by simp [World.cell?, hV, oc]
  have ka2 : ∀ V : World, V.heap[x]? = some (.cells (oc a f l c p i) 32 (0, 0)) → V.cell? ⟨x, 2, none⟩ = some (.int .i64 a.uid) := fun V hV => by simp [World.cell?, hV, oc]
  have kb2 : ∀ V : World, V.heap[y]? = some (.cells (oc b f' l' c' p' i') 32 (0, 0)) → V.cell? ⟨y, 2, none⟩ = some (.int .i64 b.uid) := fun V hV => by simp [World.cell?, hV, oc]
  have ka3 : ∀ V : World, V.heap[x]? = some (.cells (oc a f l c p i) 32 (0, 0)) → V.cell? ⟨x, 3, none⟩ = some (.int .i64 a.version) := fun V hV => by simp [World.cell?, hV, oc]
  have kb3 : ∀ V : World, V.heap[y]? = some (.cells (oc b f' l' c' p' i') 32 (0, 0)) → V.cell? ⟨y, 3, none⟩ = some (.int .i64 b.version) := fun V hV => by simp [World.cell?, hV, oc]
  have ka4 : ∀ V : World, V.heap[x]? = some (.cells (oc a f l c p i) 32 (0, 0)) → V.cell? ⟨x, 4, none⟩ = some (.bool a.deleting) := fun V hV => by simp [World.cell?, hV, oc]
  have kb4 : ∀ V : World, V.heap[y]? = some (.cells (oc b f' l' c' p' i') 32 (0, 0)) → V.cell? ⟨y, 4, none⟩ = some (.bool b.deleting) := fun V hV => by simp [World.cell?, hV, oc]
  have ka5 : ∀ V : World, V.heap[x]? = some (.cells (oc a f l c p i) 32 (0, 0)) → V.cell? ⟨x, 5, none⟩ = some (.slice f.A a.fins.length f.c) := fun V hV => by simp [World.cell?, hV, oc]
  have kb5 : ∀ V : World, V.heap[y]? = some (.cells (oc b f' l' c' p' i') 32 (0, 0)) → V.cell? ⟨y, 5, none⟩ = some (.slice f'.A b.fins.length f'.c) := fun V hV => by simp [World.cell?, hV, oc]
  have ka6 : ∀ V : World, V.heap[x]? = some (.cells (oc a f l c p i) 32 (0, 0)) → V.cell? ⟨x, 6, none⟩ = some (.slice l.A a.labels.length l.c) := fun V hV => by simp [World.cell?, hV, oc]
  have kb6 : ∀ V : World, V.heap[y]? = some (.cells (oc b f' l' c' p' i') 32 (0, 0)) → V.cell? ⟨y, 6, none⟩ = some (.slice l'.A b.labels.length l'.c) := fun V hV => by simp [World.cell?, hV, oc]
  have ka7 : ∀ V : World, V.heap[x]? = some (.cells (oc a f l c p i) 32 (0, 0)) → V.cell? ⟨x, 7, none⟩ = some (.slice c.A a.cidrs.length c.c) := fun V hV => by simp [World.cell?, hV, oc]
  have kb7 : ∀ V : World, V.heap[y]? = some (.cells (oc b f' l' c' p' i') 32 (0, 0)) → V.cell? ⟨y, 7, none⟩ = some (.slice c'.A b.cidrs.length c'.c) := fun V hV => by simp [World.cell?, hV, oc]
  have ka8 : ∀ V : World, V.heap[x]? = some (.cells (oc a f l c p i) 32 (0, 0)) → V.cell? ⟨x, 8, none⟩ = some (.string a.status) := fun V hV => by simp [World.cell?, hV, oc]
  have kb8 : ∀ V : World, V.heap[y]? = some (.cells (oc b f' l' c' p' i') 32 (0, 0)) → V.cell? ⟨y, 8, none⟩ = some (.string b.status) := fun V hV => by simp [World.cell?, hV, oc]
  have ka9 : ∀ V : World, V.heap[x]? = some (.cells (oc a f l c p i) 32 (0, 0)) → V.cell? ⟨x, 9, none⟩ = some (.int .i64 a.type) := fun V hV => by simp [World.cell?, hV, oc]
  have kb9 : ∀ V : World, V.heap[y]? = some (.cells (oc b f' l' c' p' i') 32 (0, 0)) → V.cell? ⟨y, 9, none⟩ = some (.int .i64 b.type) := fun V hV => by simp [World.cell?, hV, oc]
  have ka10 : ∀ V : World, V.heap[x]? = some (.cells (oc a f l c p i) 32 (0, 0)) → V.cell? ⟨x, 10, none⟩ = some (.int .i64 a.policy) := fun V hV => by simp [World.cell?, hV, oc]
  have kb10 : ∀ V : World, V.heap[y]? = some (.cells (oc b f' l' c' p' i') 32 (0, 0)) → V.cell? ⟨y, 10, none⟩ = some (.int .i64 b.policy) := fun V hV => by simp [World.cell?, hV, oc]
  have ka11 : ∀ V : World, V.heap[x]? = some (.cells (oc a f l c p i) 32 (0, 0)) → V.cell? ⟨x, 11, none⟩ = some (.slice p.A a.fams.length p.c) := fun V hV => by simp [World.cell?, hV, oc]
  have kb11 : ∀ V : World, V.heap[y]? = some (.cells (oc b f' l' c' p' i') 32 (0, 0)) → V.cell? ⟨y, 11, none⟩ = some (.slice p'.A b.fams.length p'.c) := fun V hV => by simp [World.cell?, hV, oc]
  have ka12 : ∀ V : World, V.heap[x]? = some (.cells (oc a f l c p i) 32 (0, 0)) → V.cell? ⟨x, 12, none⟩ = some (.slice i.A a.ips.length i.c) := fun V hV => by simp [World.cell?, hV, oc]
  have kb12 : ∀ V : World, V.heap[y]? = some (.cells (oc b f' l' c' p' i') 32 (0, 0)) → V.cell? ⟨y, 12, none⟩ = some (.slice i'.A b.ips.length i'.c) := fun V hV => by simp [World.cell?, hV, oc]
  have ka13 : ∀ V : World, V.heap[x]? = some (.cells (oc a f l c p i) 32 (0, 0)) → V.cell? ⟨x, 13, none⟩ = some (.string a.v4) := fun V hV => by simp [World.cell?, hV, oc]
  have kb13 : ∀ V : World, V.heap[y]? = some (.cells (oc b f' l' c' p' i') 32 (0, 0)) → V.cell? ⟨y, 13, none⟩ = some (.string b.v4) := fun V hV => by simp [World.cell?, hV, oc]
  have ka14 : ∀ V : World, V.heap[x]? = some (.cells (oc a f l c p i) 32 (0, 0)) → V.cell? ⟨x, 14, none⟩ = some (.string a.v6) := fun V hV => by simp [World.cell?, hV, oc]
  have kb14 : ∀ V : World, V.heap[y]? = some (.cells (oc b f' l' c' p' i') 32 (0, 0)) → V.cell? ⟨y, 14, none⟩ = some (.string b.v6) := fun V hV => by simp [World.cell?, hV, oc]
  have ka15 : ∀ V : World, V.heap[x]? = some (.cells (oc a f l c p i) 32 (0, 0)) → V.cell? ⟨x, 15, none⟩ = some (.int .i64 a.bits) := fun V hV => by simp [World.cell?, hV, oc]
  have kb15 : ∀ V : World, V.heap[y]? = some (.cells (oc b f' l' c' p' i') 32 (0, 0)) → V.cell? ⟨y, 15, none⟩ = some (.int .i64 b.bits) := fun V hV => by simp [World.cell?, hV, oc]
  have ka16 : ∀ V : World, V.heap[x]? = some (.cells (oc a f l c p i) 32 (0, 0)) → V.cell? ⟨x, 16, none⟩ = some (.string a.sel) := fun V hV => by simp [World.cell?, hV, oc]
  have kb16 : ∀ V : World, V.heap[y]? = some (.cells (oc b f' l' c' p' i') 32 (0, 0)) → V.cell? ⟨y, 16, none⟩ = some (.string b.sel) := fun V hV => by simp [World.cell?, hV, oc]
  have ka17 : ∀ V : World, V.heap[x]? = some (.cells (oc a f l c p i) 32 (0, 0)) → V.cell? ⟨x, 17, none⟩ = some (.string a.about) := fun V hV => by simp [World.cell?, hV, oc]
  have kb17 : ∀ V : World, V.heap[y]? = some (.cells (oc b f' l' c' p' i') 32 (0, 0)) → V.cell? ⟨y, 17, none⟩ = some (.string b.about) := fun V hV => by simp [World.cell?, hV, oc]
  have ka18 : ∀ V : World, V.heap[x]? = some (.cells (oc a f l c p i) 32 (0, 0)) → V.cell? ⟨x, 18, none⟩ = some (.string a.reason) := fun V hV => by simp [World.cell?, hV, oc]
  have kb18 : ∀ V : World, V.heap[y]? = some (.cells (oc b f' l' c' p' i') 32 (0, 0)) → V.cell? ⟨y, 18, none⟩ = some (.string b.reason) := fun V hV => by simp [World.cell?, hV, oc]
  have HW := Lib.hid hw1
  have B1 := Lib.hid b1
  have lw : Hid (x < w1.heap.size ∧ y < w1.heap.size) := Lib.hid ⟨by rw [hx]; exact (Array.getElem?_eq_some_iff.1 p1).1, by rw [hy]; exact (Array.getElem?_eq_some_iff.1 q1).1⟩
  rw [← hx] at p1
  rw [← hy] at q1
  have P1 := Lib.hid p1
  have Q1 := Lib.hid q1
  clear b1 p1 q1 hw1 hr hq hs h0
  go_enter Try.func49, Try.ntmps49
  go_upto_region 1 with (fail)
  rw [← HW.out, ← hy, ← hx]
  clear hx hy
  refine wp_region_held_drew (S := fun V => V.heap[x]? = some (.cells (oc a f l c p i) 32 (0, 0)) ∧ V.heap[y]? = some (.cells (oc b f' l' c' p' i') 32 (0, 0)) ∧ Below w1.heap.size w1 V) (by kernel_rfl) ⟨P1.out, Q1.out, ⟨rfl, rfl, rfl, Nat.le_refl _, fun _ _ => rfl⟩⟩ (fun hS0 => ?_)
  refine takeH (i := 0) 5 (.agg (oc a f l c p i)) rfl rfl (by kernel_rfl) (by kernel_rfl) (by kernel_rfl) (fun _ _ _ h => h) (by rfl) ?_ (by assumption) ?_
  · exact load_row_yields 32 (.tmp 2) rfl x rfl 32 (oc a f l c p i) (0, 0) _ (fun V hV => hV.1) Try.underlying32 rfl size32
  try simp only [List.setIfInBounds_toArray, List.set_cons_zero, List.set_cons_succ]
  refine takeH (i := 2) 7 ((Value.agg (oc b f' l' c' p' i'))) rfl rfl (by kernel_rfl) (by kernel_rfl) (by kernel_rfl) (fun _ _ _ h => h) (by rfl) ?_ (by assumption) ?_
  · exact load_row_yields 32 (.tmp 3) rfl y rfl 32 (oc b f' l' c' p' i') (0, 0) _ (fun V hV => hV.2.1) Try.underlying32 rfl size32
  try simp only [List.setIfInBounds_toArray, List.set_cons_zero, List.set_cons_succ]
  refine wpAnyH_ready (rs := [1]) (by kernel_rfl) (by simp) ?_
  refine AllReadyH.cons rfl (fun K hK => ?_) AllReadyH.nil
  rw [if_pos (by rfl)]
  go_simp
  go_at_call 84
  refine (flatten_any a f l c p i _).mono ?_
  rintro e wf ⟨rfl, hb1⟩
  dsimp only
  refine hK.out _ _ (keepS lw.out (by assumption) hb1) (fun hHeld => ?_)
  clear hK K
  try simp only [Act.put, List.setIfInBounds_toArray, List.set_cons_zero, List.set_cons_succ]
  refine wpAnyH_ready (rs := [3]) (by kernel_rfl) (by simp) ?_
  refine AllReadyH.cons rfl (fun K hK => ?_) AllReadyH.nil
  rw [if_pos (by rfl)]
  go_simp
  go_at_call 84
  refine (flatten_any b f' l' c' p' i' _).mono ?_
  rintro e wg ⟨rfl, hb3⟩
  dsimp only
  refine hK.out _ _ (keepS lw.out (by assumption) hb3) (fun hHeld => ?_)
  clear hK K
  try simp only [Act.put, List.setIfInBounds_toArray, List.set_cons_zero, List.set_cons_succ]
  refine takeH (i := 4) 9 (.bool false) rfl rfl (by kernel_rfl) (by kernel_rfl) (by kernel_rfl) (fun _ _ _ h => h) (by rfl) ?_ (by assumption) ?_
  · intro V hV; clear hV; go_simp; try rfl
  try simp only [List.setIfInBounds_toArray, List.set_cons_zero, List.set_cons_succ]
  refine takeH (i := 5) 10 (.bool false) rfl rfl (by kernel_rfl) (by kernel_rfl) (by kernel_rfl) (fun _ _ _ h => h) (by rfl) ?_ (by assumption) ?_
  · intro V hV; clear hV; go_simp; try rfl
  try simp only [List.setIfInBounds_toArray, List.set_cons_zero, List.set_cons_succ]
  refine takeS (i := 6) 11 rfl rfl (by kernel_rfl) (by kernel_rfl) (by kernel_rfl) (fun _ _ _ h => h) (by rfl) (by assumption) ?_
  try simp only [List.setIfInBounds_toArray, List.set_cons_zero, List.set_cons_succ]
  refine takeS (i := 7) 12 rfl rfl (by kernel_rfl) (by kernel_rfl) (by kernel_rfl) (fun _ _ _ h => h) (by rfl) (by assumption) ?_
  try simp only [List.setIfInBounds_toArray, List.set_cons_zero, List.set_cons_succ]
  refine takeS (i := 8) 13 rfl rfl (by kernel_rfl) (by kernel_rfl) (by kernel_rfl) (fun _ _ _ h => h) (by rfl) (by assumption) ?_
  try simp only [List.setIfInBounds_toArray, List.set_cons_zero, List.set_cons_succ]
  refine takeS (i := 9) 14 rfl rfl (by kernel_rfl) (by kernel_rfl) (by kernel_rfl) (fun _ _ _ h => h) (by rfl) (by assumption) ?_
  try simp only [List.setIfInBounds_toArray, List.set_cons_zero, List.set_cons_succ]
  refine takeS (i := 10) 15 rfl rfl (by kernel_rfl) (by kernel_rfl) (by kernel_rfl) (fun _ _ _ h => h) (by rfl) (by assumption) ?_
  try simp only [List.setIfInBounds_toArray, List.set_cons_zero, List.set_cons_succ]
  refine takeH (i := 11) 16 (.bool false) rfl rfl (by kernel_rfl) (by kernel_rfl) (by kernel_rfl) (fun _ _ _ h => h) (by rfl) ?_ (by assumption) ?_
  · intro V hV; clear hV; go_simp; try rfl
  try simp only [List.setIfInBounds_toArray, List.set_cons_zero, List.set_cons_succ]
  refine takeH (i := 12) 17 (.bool false) rfl rfl (by kernel_rfl) (by kernel_rfl) (by kernel_rfl) (fun _ _ _ h => h) (by rfl) ?_ (by assumption) ?_
  · intro V hV; clear hV; go_simp; try rfl
  try simp only [List.setIfInBounds_toArray, List.set_cons_zero, List.set_cons_succ]
  refine takeS (i := 13) 18 rfl rfl (by kernel_rfl) (by kernel_rfl) (by kernel_rfl) (fun _ _ _ h => h) (by rfl) (by assumption) ?_
  try simp only [List.setIfInBounds_toArray, List.set_cons_zero, List.set_cons_succ]
  refine takeS (i := 14) 19 rfl rfl (by kernel_rfl) (by kernel_rfl) (by kernel_rfl) (fun _ _ _ h => h) (by rfl) (by assumption) ?_
  try simp only [List.setIfInBounds_toArray, List.set_cons_zero, List.set_cons_succ]
  refine takeS (i := 15) 20 rfl rfl (by kernel_rfl) (by kernel_rfl) (by kernel_rfl) (fun _ _ _ h => h) (by rfl) (by assumption) ?_
  try simp only [List.setIfInBounds_toArray, List.set_cons_zero, List.set_cons_succ]
  refine takeS (i := 16) 21 rfl rfl (by kernel_rfl) (by kernel_rfl) (by kernel_rfl) (fun _ _ _ h => h) (by rfl) (by assumption) ?_
  try simp only [List.setIfInBounds_toArray, List.set_cons_zero, List.set_cons_succ]
  refine takeS (i := 17) 22 rfl rfl (by kernel_rfl) (by kernel_rfl) (by kernel_rfl) (fun _ _ _ h => h) (by rfl) (by assumption) ?_
  try simp only [List.setIfInBounds_toArray, List.set_cons_zero, List.set_cons_succ]
  refine takeH (i := 18) 23 (.bool false) rfl rfl (by kernel_rfl) (by kernel_rfl) (by kernel_rfl) (fun _ _ _ h => h) (by rfl) ?_ (by assumption) ?_
  · intro V hV; clear hV; go_simp; try rfl
  try simp only [List.setIfInBounds_toArray, List.set_cons_zero, List.set_cons_succ]
  refine takeH (i := 19) 24 (.bool false) rfl rfl (by kernel_rfl) (by kernel_rfl) (by kernel_rfl) (fun _ _ _ h => h) (by rfl) ?_ (by assumption) ?_
  · intro V hV; clear hV; go_simp; try rfl
  try simp only [List.setIfInBounds_toArray, List.set_cons_zero, List.set_cons_succ]
  refine takeS (i := 20) 25 rfl rfl (by kernel_rfl) (by kernel_rfl) (by kernel_rfl) (fun _ _ _ h => h) (by rfl) (by assumption) ?_
  try simp only [List.setIfInBounds_toArray, List.set_cons_zero, List.set_cons_succ]
  refine takeS (i := 21) 26 rfl rfl (by kernel_rfl) (by kernel_rfl) (by kernel_rfl) (fun _ _ _ h => h) (by rfl) (by assumption) ?_
  try simp only [List.setIfInBounds_toArray, List.set_cons_zero, List.set_cons_succ]
  refine takeS (i := 22) 27 rfl rfl (by kernel_rfl) (by kernel_rfl) (by kernel_rfl) (fun _ _ _ h => h) (by rfl) (by assumption) ?_
  try simp only [List.setIfInBounds_toArray, List.set_cons_zero, List.set_cons_succ]
  refine takeS (i := 23) 28 rfl rfl (by kernel_rfl) (by kernel_rfl) (by kernel_rfl) (fun _ _ _ h => h) (by rfl) (by assumption) ?_
  try simp only [List.setIfInBounds_toArray, List.set_cons_zero, List.set_cons_succ]
  refine takeS (i := 24) 29 rfl rfl (by kernel_rfl) (by kernel_rfl) (by kernel_rfl) (fun _ _ _ h => h) (by rfl) (by assumption) ?_
  try simp only [List.setIfInBounds_toArray, List.set_cons_zero, List.set_cons_succ]
  refine takeH (i := 25) 30 (.bool false) rfl rfl (by kernel_rfl) (by kernel_rfl) (by kernel_rfl) (fun _ _ _ h => h) (by rfl) ?_ (by assumption) ?_
  · intro V hV; clear hV; go_simp; try rfl
  try simp only [List.setIfInBounds_toArray, List.set_cons_zero, List.set_cons_succ]
  refine takeH (i := 26) 31 (.bool false) rfl rfl (by kernel_rfl) (by kernel_rfl) (by kernel_rfl) (fun _ _ _ h => h) (by rfl) ?_ (by assumption) ?_
  · intro V hV; clear hV; go_simp; try rfl
  try simp only [List.setIfInBounds_toArray, List.set_cons_zero, List.set_cons_succ]
  refine takeS (i := 27) 32 rfl rfl (by kernel_rfl) (by kernel_rfl) (by kernel_rfl) (fun _ _ _ h => h) (by rfl) (by assumption) ?_
  try simp only [List.setIfInBounds_toArray, List.set_cons_zero, List.set_cons_succ]
  refine takeS (i := 28) 33 rfl rfl (by kernel_rfl) (by kernel_rfl) (by kernel_rfl) (fun _ _ _ h => h) (by rfl) (by assumption) ?_
  try simp only [List.setIfInBounds_toArray, List.set_cons_zero, List.set_cons_succ]
  refine takeS (i := 29) 34 rfl rfl (by kernel_rfl) (by kernel_rfl) (by kernel_rfl) (fun _ _ _ h => h) (by rfl) (by assumption) ?_
  try simp only [List.setIfInBounds_toArray, List.set_cons_zero, List.set_cons_succ]
  refine takeS (i := 30) 35 rfl rfl (by kernel_rfl) (by kernel_rfl) (by kernel_rfl) (fun _ _ _ h => h) (by rfl) (by assumption) ?_
  try simp only [List.setIfInBounds_toArray, List.set_cons_zero, List.set_cons_succ]
  refine takeS (i := 31) 36 rfl rfl (by kernel_rfl) (by kernel_rfl) (by kernel_rfl) (fun _ _ _ h => h) (by rfl) (by assumption) ?_
  try simp only [List.setIfInBounds_toArray, List.set_cons_zero, List.set_cons_succ]
  refine takeH (i := 32) 37 (.bool false) rfl rfl (by kernel_rfl) (by kernel_rfl) (by kernel_rfl) (fun _ _ _ h => h) (by rfl) ?_ (by assumption) ?_
  · intro V hV; clear hV; go_simp; try rfl
  try simp only [List.setIfInBounds_toArray, List.set_cons_zero, List.set_cons_succ]
  refine takeH (i := 33) 38 (.bool false) rfl rfl (by kernel_rfl) (by kernel_rfl) (by kernel_rfl) (fun _ _ _ h => h) (by rfl) ?_ (by assumption) ?_
  · intro V hV; clear hV; go_simp; try rfl
  try simp only [List.setIfInBounds_toArray, List.set_cons_zero, List.set_cons_succ]
  refine takeS (i := 34) 39 rfl rfl (by kernel_rfl) (by kernel_rfl) (by kernel_rfl) (fun _ _ _ h => h) (by rfl) (by assumption) ?_
  try simp only [List.setIfInBounds_toArray, List.set_cons_zero, List.set_cons_succ]
  refine takeS (i := 35) 40 rfl rfl (by kernel_rfl) (by kernel_rfl) (by kernel_rfl) (fun _ _ _ h => h) (by rfl) (by assumption) ?_
  try simp only [List.setIfInBounds_toArray, List.set_cons_zero, List.set_cons_succ]
  refine takeS (i := 36) 41 rfl rfl (by kernel_rfl) (by kernel_rfl) (by kernel_rfl) (fun _ _ _ h => h) (by rfl) (by assumption) ?_
  try simp only [List.setIfInBounds_toArray, List.set_cons_zero, List.set_cons_succ]
  refine takeS (i := 37) 42 rfl rfl (by kernel_rfl) (by kernel_rfl) (by kernel_rfl) (fun _ _ _ h => h) (by rfl) (by assumption) ?_
  try simp only [List.setIfInBounds_toArray, List.set_cons_zero, List.set_cons_succ]
  refine takeS (i := 38) 43 rfl rfl (by kernel_rfl) (by kernel_rfl) (by kernel_rfl) (fun _ _ _ h => h) (by rfl) (by assumption) ?_
  try simp only [List.setIfInBounds_toArray, List.set_cons_zero, List.set_cons_succ]
  refine takeH (i := 39) 44 (.bool false) rfl rfl (by kernel_rfl) (by kernel_rfl) (by kernel_rfl) (fun _ _ _ h => h) (by rfl) ?_ (by assumption) ?_
  · intro V hV; clear hV; go_simp; try rfl
  try simp only [List.setIfInBounds_toArray, List.set_cons_zero, List.set_cons_succ]
  refine takeH (i := 40) 4 (.bool false) rfl rfl (by kernel_rfl) (by kernel_rfl) (by kernel_rfl) (fun _ _ _ h => h) (by rfl) ?_ (by assumption) ?_
  · intro V hV; clear hV; go_simp; try rfl
  try simp only [List.setIfInBounds_toArray, List.set_cons_zero, List.set_cons_succ]
  refine wpAnyH_done (by kernel_rfl) ?_ _
  have HE := Lib.hid hHeld
  go_wp2
  go_ret
  exact ⟨rfl, B1.out.trans (belowLe (by have := B1.out.size; exact this) HE.out.2.2)⟩

set_option maxRecDepth 100000 in
set_option maxHeartbeats 4000000 in
theorem same1_any (a b : Ob) (f l c p i f' l' c' p' i' : Sl) (hs : a.fins.length ≤ 1000000 ∧ a.labels.length ≤ 1000000 ∧ a.cidrs.length ≤ 1000000 ∧ a.fams.length ≤ 1000000 ∧ a.ips.length ≤ 1000000) (w : World) (hr : RowsR w a f l c p i) (hq : RowsR w b f' l' c' p' i')
    (h0 : flatB a b = true) (h1 : decide (a.fins = b.fins) = false) :
    Calls Try.prog 49 #[.agg (oc a f l c p i), .agg (oc b f' l' c' p' i')] w fun e w' => e = .returned (.bool false) ∧ Below w.heap.size w w' := by
  obtain ⟨w1, hw1⟩ : ∃ w1, w1 = (w.alloc (.cells (oc a f l c p i) 32)).alloc (.cells (oc b f' l' c' p' i') 32) := ⟨_, rfl⟩
  have b1 : Below w.heap.size w w1 := by rw [hw1]; exact G.bthen (bel_alloc _ _) (bel_alloc _ _)
  have p1 : w1.heap[w.heap.size]? = some (.cells (oc a f l c p i) 32 (0, 0)) := by
    rw [hw1]; exact ((bel_alloc _ _).block _ (by simp)).trans (G.heap_new _ _)
  have q1 : w1.heap[w.heap.size + 1]? = some (.cells (oc b f' l' c' p' i') 32 (0, 0)) := by
    rw [hw1]
    have h2 := G.heap_new (w.alloc (.cells (oc a f l c p i) 32)) (.cells (oc b f' l' c' p' i') 32)
    rw [show (w.alloc (.cells (oc a f l c p i) 32)).heap.size = w.heap.size + 1 by simp] at h2
    exact h2
  obtain ⟨x, hx⟩ : ∃ x, x = w.heap.size := ⟨_, rfl⟩
  obtain ⟨y, hy⟩ : ∃ y, y = w.heap.size + 1 := ⟨_, rfl⟩
  have heq := run_eq_flat a b true h0
  have ka0 : ∀ V : World, V.heap[x]? = some (.cells (oc a f l c p i) 32 (0, 0)) → V.cell? ⟨x, 0, none⟩ = some (.int .i64 a.kind) := fun V hV => by simp [World.cell?, hV, oc]
  have kb0 : ∀ V : World, V.heap[y]? = some (.cells (oc b f' l' c' p' i') 32 (0, 0)) → V.cell? ⟨y, 0, none⟩ = some (.int .i64 b.kind) := fun V hV => by simp [World.cell?, hV, oc]
  have ka1 : ∀ V : World, V.heap[x]? = some (.cells (oc a f l c p i) 32 (0, 0)) → V.cell? ⟨x, 1, none⟩ = some (.string a.name) := fun V hV => by simp [World.cell?, hV, oc]
  have kb1 : ∀ V : World, V.heap[y]? = some (.cells (oc b f' l' c' p' i') 32 (0, 0)) → V.cell? ⟨y, 1, none⟩ = some (.string b.name) := fun V hV => by simp [World.cell?, hV, oc]
  have ka2 : ∀ V : World, V.heap[x]? = some (.cells (oc a f l c p i) 32 (0, 0)) → V.cell? ⟨x, 2, none⟩ = some (.int .i64 a.uid) := fun V hV => by simp [World.cell?, hV, oc]
  have kb2 : ∀ V : World, V.heap[y]? = some (.cells (oc b f' l' c' p' i') 32 (0, 0)) → V.cell? ⟨y, 2, none⟩ = some (.int .i64 b.uid) := fun V hV => by simp [World.cell?, hV, oc]
  have ka3 : ∀ V : World, V.heap[x]? = some (.cells (oc a f l c p i) 32 (0, 0)) → V.cell? ⟨x, 3, none⟩ = some (.int .i64 a.version) := fun V hV => by simp [World.cell?, hV, oc]
  have kb3 : ∀ V : World, V.heap[y]? = some (.cells (oc b f' l' c' p' i') 32 (0, 0)) → V.cell? ⟨y, 3, none⟩ = some (.int .i64 b.version) := fun V hV => by simp [World.cell?, hV, oc]
  have ka4 : ∀ V : World, V.heap[x]? = some (.cells (oc a f l c p i) 32 (0, 0)) → V.cell? ⟨x, 4, none⟩ = some (.bool a.deleting) := fun V hV => by simp [World.cell?, hV, oc]
  have kb4 : ∀ V : World, V.heap[y]? = some (.cells (oc b f' l' c' p' i') 32 (0, 0)) → V.cell? ⟨y, 4, none⟩ = some (.bool b.deleting) := fun V hV => by simp [World.cell?, hV, oc]
  have ka5 : ∀ V : World, V.heap[x]? = some (.cells (oc a f l c p i) 32 (0, 0)) → V.cell? ⟨x, 5, none⟩ = some (.slice f.A a.fins.length f.c) := fun V hV => by simp [World.cell?, hV, oc]
  have kb5 : ∀ V : World, V.heap[y]? = some (.cells (oc b f' l' c' p' i') 32 (0, 0)) → V.cell? ⟨y, 5, none⟩ = some (.slice f'.A b.fins.length f'.c) := fun V hV => by simp [World.cell?, hV, oc]
  have ka6 : ∀ V : World, V.heap[x]? = some (.cells (oc a f l c p i) 32 (0, 0)) → V.cell? ⟨x, 6, none⟩ = some (.slice l.A a.labels.length l.c) := fun V hV => by simp [World.cell?, hV, oc]
  have kb6 : ∀ V : World, V.heap[y]? = some (.cells (oc b f' l' c' p' i') 32 (0, 0)) → V.cell? ⟨y, 6, none⟩ = some (.slice l'.A b.labels.length l'.c) := fun V hV => by simp [World.cell?, hV, oc]
  have ka7 : ∀ V : World, V.heap[x]? = some (.cells (oc a f l c p i) 32 (0, 0)) → V.cell? ⟨x, 7, none⟩ = some (.slice c.A a.cidrs.length c.c) := fun V hV => by simp [World.cell?, hV, oc]
  have kb7 : ∀ V : World, V.heap[y]? = some (.cells (oc b f' l' c' p' i') 32 (0, 0)) → V.cell? ⟨y, 7, none⟩ = some (.slice c'.A b.cidrs.length c'.c) := fun V hV => by simp [World.cell?, hV, oc]
  have ka8 : ∀ V : World, V.heap[x]? = some (.cells (oc a f l c p i) 32 (0, 0)) → V.cell? ⟨x, 8, none⟩ = some (.string a.status) := fun V hV => by simp [World.cell?, hV, oc]
  have kb8 : ∀ V : World, V.heap[y]? = some (.cells (oc b f' l' c' p' i') 32 (0, 0)) → V.cell? ⟨y, 8, none⟩ = some (.string b.status) := fun V hV => by simp [World.cell?, hV, oc]
  have ka9 : ∀ V : World, V.heap[x]? = some (.cells (oc a f l c p i) 32 (0, 0)) → V.cell? ⟨x, 9, none⟩ = some (.int .i64 a.type) := fun V hV => by simp [World.cell?, hV, oc]
  have kb9 : ∀ V : World, V.heap[y]? = some (.cells (oc b f' l' c' p' i') 32 (0, 0)) → V.cell? ⟨y, 9, none⟩ = some (.int .i64 b.type) := fun V hV => by simp [World.cell?, hV, oc]
  have ka10 : ∀ V : World, V.heap[x]? = some (.cells (oc a f l c p i) 32 (0, 0)) → V.cell? ⟨x, 10, none⟩ = some (.int .i64 a.policy) := fun V hV => by simp [World.cell?, hV, oc]
  have kb10 : ∀ V : World, V.heap[y]? = some (.cells (oc b f' l' c' p' i') 32 (0, 0)) → V.cell? ⟨y, 10, none⟩ = some (.int .i64 b.policy) := fun V hV => by simp [World.cell?, hV, oc]
  have ka11 : ∀ V : World, V.heap[x]? = some (.cells (oc a f l c p i) 32 (0, 0)) → V.cell? ⟨x, 11, none⟩ = some (.slice p.A a.fams.length p.c) := fun V hV => by simp [World.cell?, hV, oc]
  have kb11 : ∀ V : World, V.heap[y]? = some (.cells (oc b f' l' c' p' i') 32 (0, 0)) → V.cell? ⟨y, 11, none⟩ = some (.slice p'.A b.fams.length p'.c) := fun V hV => by simp [World.cell?, hV, oc]
  have ka12 : ∀ V : World, V.heap[x]? = some (.cells (oc a f l c p i) 32 (0, 0)) → V.cell? ⟨x, 12, none⟩ = some (.slice i.A a.ips.length i.c) := fun V hV => by simp [World.cell?, hV, oc]
  have kb12 : ∀ V : World, V.heap[y]? = some (.cells (oc b f' l' c' p' i') 32 (0, 0)) → V.cell? ⟨y, 12, none⟩ = some (.slice i'.A b.ips.length i'.c) := fun V hV => by simp [World.cell?, hV, oc]
  have ka13 : ∀ V : World, V.heap[x]? = some (.cells (oc a f l c p i) 32 (0, 0)) → V.cell? ⟨x, 13, none⟩ = some (.string a.v4) := fun V hV => by simp [World.cell?, hV, oc]
  have kb13 : ∀ V : World, V.heap[y]? = some (.cells (oc b f' l' c' p' i') 32 (0, 0)) → V.cell? ⟨y, 13, none⟩ = some (.string b.v4) := fun V hV => by simp [World.cell?, hV, oc]
  have ka14 : ∀ V : World, V.heap[x]? = some (.cells (oc a f l c p i) 32 (0, 0)) → V.cell? ⟨x, 14, none⟩ = some (.string a.v6) := fun V hV => by simp [World.cell?, hV, oc]
  have kb14 : ∀ V : World, V.heap[y]? = some (.cells (oc b f' l' c' p' i') 32 (0, 0)) → V.cell? ⟨y, 14, none⟩ = some (.string b.v6) := fun V hV => by simp [World.cell?, hV, oc]
  have ka15 : ∀ V : World, V.heap[x]? = some (.cells (oc a f l c p i) 32 (0, 0)) → V.cell? ⟨x, 15, none⟩ = some (.int .i64 a.bits) := fun V hV => by simp [World.cell?, hV, oc]
  have kb15 : ∀ V : World, V.heap[y]? = some (.cells (oc b f' l' c' p' i') 32 (0, 0)) → V.cell? ⟨y, 15, none⟩ = some (.int .i64 b.bits) := fun V hV => by simp [World.cell?, hV, oc]
  have ka16 : ∀ V : World, V.heap[x]? = some (.cells (oc a f l c p i) 32 (0, 0)) → V.cell? ⟨x, 16, none⟩ = some (.string a.sel) := fun V hV => by simp [World.cell?, hV, oc]
  have kb16 : ∀ V : World, V.heap[y]? = some (.cells (oc b f' l' c' p' i') 32 (0, 0)) → V.cell? ⟨y, 16, none⟩ = some (.string b.sel) := fun V hV => by simp [World.cell?, hV, oc]
  have ka17 : ∀ V : World, V.heap[x]? = some (.cells (oc a f l c p i) 32 (0, 0)) → V.cell? ⟨x, 17, none⟩ = some (.string a.about) := fun V hV => by simp [World.cell?, hV, oc]
  have kb17 : ∀ V : World, V.heap[y]? = some (.cells (oc b f' l' c' p' i') 32 (0, 0)) → V.cell? ⟨y, 17, none⟩ = some (.string b.about) := fun V hV => by simp [World.cell?, hV, oc]
  have ka18 : ∀ V : World, V.heap[x]? = some (.cells (oc a f l c p i) 32 (0, 0)) → V.cell? ⟨x, 18, none⟩ = some (.string a.reason) := fun V hV => by simp [World.cell?, hV, oc]
  have kb18 : ∀ V : World, V.heap[y]? = some (.cells (oc b f' l' c' p' i') 32 (0, 0)) → V.cell? ⟨y, 18, none⟩ = some (.string b.reason) := fun V hV => by simp [World.cell?, hV, oc]
  have hc0 : ∀ V, Below w1.heap.size w1 V → Calls Try.prog 85 #[.slice f.A a.fins.length f.c, .slice f'.A b.fins.length f'.c] V fun e w' => e = .returned (.bool false) ∧ Below V.heap.size V w' := fun V hV => by rw [← h1]; exact eqstr_any a.fins b.fins f.A f'.A f.c f'.c hs.1 V ((hr.fr.below b1).below hV) ((hq.fr.below b1).below hV)
  have HC0 := Lib.hid hc0
  have HW := Lib.hid hw1
  have B1 := Lib.hid b1
  have lw : Hid (x < w1.heap.size ∧ y < w1.heap.size) := Lib.hid ⟨by rw [hx]; exact (Array.getElem?_eq_some_iff.1 p1).1, by rw [hy]; exact (Array.getElem?_eq_some_iff.1 q1).1⟩
  rw [← hx] at p1
  rw [← hy] at q1
  have P1 := Lib.hid p1
  have Q1 := Lib.hid q1
  clear b1 p1 q1 hw1 hr hq hs h0 hc0 h1
  go_enter Try.func49, Try.ntmps49
  go_upto_region 1 with (fail)
  rw [← HW.out, ← hy, ← hx]
  clear hx hy
  refine wp_region_held_drew (S := fun V => V.heap[x]? = some (.cells (oc a f l c p i) 32 (0, 0)) ∧ V.heap[y]? = some (.cells (oc b f' l' c' p' i') 32 (0, 0)) ∧ Below w1.heap.size w1 V) (by kernel_rfl) ⟨P1.out, Q1.out, ⟨rfl, rfl, rfl, Nat.le_refl _, fun _ _ => rfl⟩⟩ (fun hS0 => ?_)
  refine takeH (i := 0) 5 (.agg (oc a f l c p i)) rfl rfl (by kernel_rfl) (by kernel_rfl) (by kernel_rfl) (fun _ _ _ h => h) (by rfl) ?_ (by assumption) ?_
  · exact load_row_yields 32 (.tmp 2) rfl x rfl 32 (oc a f l c p i) (0, 0) _ (fun V hV => hV.1) Try.underlying32 rfl size32
  try simp only [List.setIfInBounds_toArray, List.set_cons_zero, List.set_cons_succ]
  refine takeH (i := 2) 7 ((Value.agg (oc b f' l' c' p' i'))) rfl rfl (by kernel_rfl) (by kernel_rfl) (by kernel_rfl) (fun _ _ _ h => h) (by rfl) ?_ (by assumption) ?_
  · exact load_row_yields 32 (.tmp 3) rfl y rfl 32 (oc b f' l' c' p' i') (0, 0) _ (fun V hV => hV.2.1) Try.underlying32 rfl size32
  try simp only [List.setIfInBounds_toArray, List.set_cons_zero, List.set_cons_succ]
  refine wpAnyH_ready (rs := [1]) (by kernel_rfl) (by simp) ?_
  refine AllReadyH.cons rfl (fun K hK => ?_) AllReadyH.nil
  rw [if_pos (by rfl)]
  go_simp
  go_at_call 84
  refine (flatten_any a f l c p i _).mono ?_
  rintro e wf ⟨rfl, hb1⟩
  dsimp only
  refine hK.out _ _ (keepS lw.out (by assumption) hb1) (fun hHeld => ?_)
  clear hK K
  try simp only [Act.put, List.setIfInBounds_toArray, List.set_cons_zero, List.set_cons_succ]
  refine wpAnyH_ready (rs := [3]) (by kernel_rfl) (by simp) ?_
  refine AllReadyH.cons rfl (fun K hK => ?_) AllReadyH.nil
  rw [if_pos (by rfl)]
  go_simp
  go_at_call 84
  refine (flatten_any b f' l' c' p' i' _).mono ?_
  rintro e wg ⟨rfl, hb3⟩
  dsimp only
  refine hK.out _ _ (keepS lw.out (by assumption) hb3) (fun hHeld => ?_)
  clear hK K
  try simp only [Act.put, List.setIfInBounds_toArray, List.set_cons_zero, List.set_cons_succ]
  refine takeH (i := 4) 9 (.bool true) rfl rfl (by kernel_rfl) (by kernel_rfl) (by kernel_rfl) (fun _ _ _ h => h) (by rfl) ?_ (by assumption) ?_
  · intro V hV; clear hV; go_simp; try rfl
  try simp only [List.setIfInBounds_toArray, List.set_cons_zero, List.set_cons_succ]
  refine takeH (i := 5) 10 (.bool true) rfl rfl (by kernel_rfl) (by kernel_rfl) (by kernel_rfl) (fun _ _ _ h => h) (by rfl) ?_ (by assumption) ?_
  · intro V hV; clear hV; go_simp; try rfl
  try simp only [List.setIfInBounds_toArray, List.set_cons_zero, List.set_cons_succ]
  refine takeH (i := 6) 11 (.pointer (some ⟨x, 5, none⟩)) rfl rfl (by kernel_rfl) (by kernel_rfl) (by kernel_rfl) (fun _ _ _ h => h) (by rfl) ?_ (by assumption) ?_
  · intro V hV; clear hV; go_simp; try rfl
  try simp only [List.setIfInBounds_toArray, List.set_cons_zero, List.set_cons_succ]
  refine takeH (i := 7) 12 (.slice f.A a.fins.length f.c) rfl rfl (by kernel_rfl) (by kernel_rfl) (by kernel_rfl) (fun _ _ _ h => h) (by rfl) ?_ (by assumption) ?_
  · intro V hV; have hc := ka5 V hV.1; clear hV; go_simp; try rfl
  try simp only [List.setIfInBounds_toArray, List.set_cons_zero, List.set_cons_succ]
  refine takeH (i := 8) 13 (.pointer (some ⟨y, 5, none⟩)) rfl rfl (by kernel_rfl) (by kernel_rfl) (by kernel_rfl) (fun _ _ _ h => h) (by rfl) ?_ (by assumption) ?_
  · intro V hV; clear hV; go_simp; try rfl
  try simp only [List.setIfInBounds_toArray, List.set_cons_zero, List.set_cons_succ]
  refine takeH (i := 9) 14 (.slice f'.A b.fins.length f'.c) rfl rfl (by kernel_rfl) (by kernel_rfl) (by kernel_rfl) (fun _ _ _ h => h) (by rfl) ?_ (by assumption) ?_
  · intro V hV; have hc := kb5 V hV.2.1; clear hV; go_simp; try rfl
  try simp only [List.setIfInBounds_toArray, List.set_cons_zero, List.set_cons_succ]
  refine wpAnyH_ready (rs := [10]) (by kernel_rfl) (by simp) ?_
  refine AllReadyH.cons rfl (fun K hK => ?_) AllReadyH.nil
  rw [if_pos (by rfl)]
  go_simp
  go_at_call 85
  refine (HC0.out _ (And.right (And.right ‹_ ∧ _›))).mono ?_
  rintro e wq0 ⟨rfl, hb10⟩
  dsimp only
  refine hK.out _ _ (keepS lw.out (by assumption) hb10) (fun hHeld => ?_)
  clear hK K
  try simp only [Act.put, List.setIfInBounds_toArray, List.set_cons_zero, List.set_cons_succ]
  refine takeH (i := 11) 16 (.bool false) rfl rfl (by kernel_rfl) (by kernel_rfl) (by kernel_rfl) (fun _ _ _ h => h) (by rfl) ?_ (by assumption) ?_
  · intro V hV; clear hV; go_simp; try rfl
  try simp only [List.setIfInBounds_toArray, List.set_cons_zero, List.set_cons_succ]
  refine takeH (i := 12) 17 (.bool false) rfl rfl (by kernel_rfl) (by kernel_rfl) (by kernel_rfl) (fun _ _ _ h => h) (by rfl) ?_ (by assumption) ?_
  · intro V hV; clear hV; go_simp; try rfl
  try simp only [List.setIfInBounds_toArray, List.set_cons_zero, List.set_cons_succ]
  refine takeS (i := 13) 18 rfl rfl (by kernel_rfl) (by kernel_rfl) (by kernel_rfl) (fun _ _ _ h => h) (by rfl) (by assumption) ?_
  try simp only [List.setIfInBounds_toArray, List.set_cons_zero, List.set_cons_succ]
  refine takeS (i := 14) 19 rfl rfl (by kernel_rfl) (by kernel_rfl) (by kernel_rfl) (fun _ _ _ h => h) (by rfl) (by assumption) ?_
  try simp only [List.setIfInBounds_toArray, List.set_cons_zero, List.set_cons_succ]
  refine takeS (i := 15) 20 rfl rfl (by kernel_rfl) (by kernel_rfl) (by kernel_rfl) (fun _ _ _ h => h) (by rfl) (by assumption) ?_
  try simp only [List.setIfInBounds_toArray, List.set_cons_zero, List.set_cons_succ]
  refine takeS (i := 16) 21 rfl rfl (by kernel_rfl) (by kernel_rfl) (by kernel_rfl) (fun _ _ _ h => h) (by rfl) (by assumption) ?_
  try simp only [List.setIfInBounds_toArray, List.set_cons_zero, List.set_cons_succ]
  refine takeS (i := 17) 22 rfl rfl (by kernel_rfl) (by kernel_rfl) (by kernel_rfl) (fun _ _ _ h => h) (by rfl) (by assumption) ?_
  try simp only [List.setIfInBounds_toArray, List.set_cons_zero, List.set_cons_succ]
  refine takeH (i := 18) 23 (.bool false) rfl rfl (by kernel_rfl) (by kernel_rfl) (by kernel_rfl) (fun _ _ _ h => h) (by rfl) ?_ (by assumption) ?_
  · intro V hV; clear hV; go_simp; try rfl
  try simp only [List.setIfInBounds_toArray, List.set_cons_zero, List.set_cons_succ]
  refine takeH (i := 19) 24 (.bool false) rfl rfl (by kernel_rfl) (by kernel_rfl) (by kernel_rfl) (fun _ _ _ h => h) (by rfl) ?_ (by assumption) ?_
  · intro V hV; clear hV; go_simp; try rfl
  try simp only [List.setIfInBounds_toArray, List.set_cons_zero, List.set_cons_succ]
  refine takeS (i := 20) 25 rfl rfl (by kernel_rfl) (by kernel_rfl) (by kernel_rfl) (fun _ _ _ h => h) (by rfl) (by assumption) ?_
  try simp only [List.setIfInBounds_toArray, List.set_cons_zero, List.set_cons_succ]
  refine takeS (i := 21) 26 rfl rfl (by kernel_rfl) (by kernel_rfl) (by kernel_rfl) (fun _ _ _ h => h) (by rfl) (by assumption) ?_
  try simp only [List.setIfInBounds_toArray, List.set_cons_zero, List.set_cons_succ]
  refine takeS (i := 22) 27 rfl rfl (by kernel_rfl) (by kernel_rfl) (by kernel_rfl) (fun _ _ _ h => h) (by rfl) (by assumption) ?_
  try simp only [List.setIfInBounds_toArray, List.set_cons_zero, List.set_cons_succ]
  refine takeS (i := 23) 28 rfl rfl (by kernel_rfl) (by kernel_rfl) (by kernel_rfl) (fun _ _ _ h => h) (by rfl) (by assumption) ?_
  try simp only [List.setIfInBounds_toArray, List.set_cons_zero, List.set_cons_succ]
  refine takeS (i := 24) 29 rfl rfl (by kernel_rfl) (by kernel_rfl) (by kernel_rfl) (fun _ _ _ h => h) (by rfl) (by assumption) ?_
  try simp only [List.setIfInBounds_toArray, List.set_cons_zero, List.set_cons_succ]
  refine takeH (i := 25) 30 (.bool false) rfl rfl (by kernel_rfl) (by kernel_rfl) (by kernel_rfl) (fun _ _ _ h => h) (by rfl) ?_ (by assumption) ?_
  · intro V hV; clear hV; go_simp; try rfl
  try simp only [List.setIfInBounds_toArray, List.set_cons_zero, List.set_cons_succ]
  refine takeH (i := 26) 31 (.bool false) rfl rfl (by kernel_rfl) (by kernel_rfl) (by kernel_rfl) (fun _ _ _ h => h) (by rfl) ?_ (by assumption) ?_
  · intro V hV; clear hV; go_simp; try rfl
  try simp only [List.setIfInBounds_toArray, List.set_cons_zero, List.set_cons_succ]
  refine takeS (i := 27) 32 rfl rfl (by kernel_rfl) (by kernel_rfl) (by kernel_rfl) (fun _ _ _ h => h) (by rfl) (by assumption) ?_
  try simp only [List.setIfInBounds_toArray, List.set_cons_zero, List.set_cons_succ]
  refine takeS (i := 28) 33 rfl rfl (by kernel_rfl) (by kernel_rfl) (by kernel_rfl) (fun _ _ _ h => h) (by rfl) (by assumption) ?_
  try simp only [List.setIfInBounds_toArray, List.set_cons_zero, List.set_cons_succ]
  refine takeS (i := 29) 34 rfl rfl (by kernel_rfl) (by kernel_rfl) (by kernel_rfl) (fun _ _ _ h => h) (by rfl) (by assumption) ?_
  try simp only [List.setIfInBounds_toArray, List.set_cons_zero, List.set_cons_succ]
  refine takeS (i := 30) 35 rfl rfl (by kernel_rfl) (by kernel_rfl) (by kernel_rfl) (fun _ _ _ h => h) (by rfl) (by assumption) ?_
  try simp only [List.setIfInBounds_toArray, List.set_cons_zero, List.set_cons_succ]
  refine takeS (i := 31) 36 rfl rfl (by kernel_rfl) (by kernel_rfl) (by kernel_rfl) (fun _ _ _ h => h) (by rfl) (by assumption) ?_
  try simp only [List.setIfInBounds_toArray, List.set_cons_zero, List.set_cons_succ]
  refine takeH (i := 32) 37 (.bool false) rfl rfl (by kernel_rfl) (by kernel_rfl) (by kernel_rfl) (fun _ _ _ h => h) (by rfl) ?_ (by assumption) ?_
  · intro V hV; clear hV; go_simp; try rfl
  try simp only [List.setIfInBounds_toArray, List.set_cons_zero, List.set_cons_succ]
  refine takeH (i := 33) 38 (.bool false) rfl rfl (by kernel_rfl) (by kernel_rfl) (by kernel_rfl) (fun _ _ _ h => h) (by rfl) ?_ (by assumption) ?_
  · intro V hV; clear hV; go_simp; try rfl
  try simp only [List.setIfInBounds_toArray, List.set_cons_zero, List.set_cons_succ]
  refine takeS (i := 34) 39 rfl rfl (by kernel_rfl) (by kernel_rfl) (by kernel_rfl) (fun _ _ _ h => h) (by rfl) (by assumption) ?_
  try simp only [List.setIfInBounds_toArray, List.set_cons_zero, List.set_cons_succ]
  refine takeS (i := 35) 40 rfl rfl (by kernel_rfl) (by kernel_rfl) (by kernel_rfl) (fun _ _ _ h => h) (by rfl) (by assumption) ?_
  try simp only [List.setIfInBounds_toArray, List.set_cons_zero, List.set_cons_succ]
  refine takeS (i := 36) 41 rfl rfl (by kernel_rfl) (by kernel_rfl) (by kernel_rfl) (fun _ _ _ h => h) (by rfl) (by assumption) ?_
  try simp only [List.setIfInBounds_toArray, List.set_cons_zero, List.set_cons_succ]
  refine takeS (i := 37) 42 rfl rfl (by kernel_rfl) (by kernel_rfl) (by kernel_rfl) (fun _ _ _ h => h) (by rfl) (by assumption) ?_
  try simp only [List.setIfInBounds_toArray, List.set_cons_zero, List.set_cons_succ]
  refine takeS (i := 38) 43 rfl rfl (by kernel_rfl) (by kernel_rfl) (by kernel_rfl) (fun _ _ _ h => h) (by rfl) (by assumption) ?_
  try simp only [List.setIfInBounds_toArray, List.set_cons_zero, List.set_cons_succ]
  refine takeH (i := 39) 44 (.bool false) rfl rfl (by kernel_rfl) (by kernel_rfl) (by kernel_rfl) (fun _ _ _ h => h) (by rfl) ?_ (by assumption) ?_
  · intro V hV; clear hV; go_simp; try rfl
  try simp only [List.setIfInBounds_toArray, List.set_cons_zero, List.set_cons_succ]
  refine takeH (i := 40) 4 (.bool false) rfl rfl (by kernel_rfl) (by kernel_rfl) (by kernel_rfl) (fun _ _ _ h => h) (by rfl) ?_ (by assumption) ?_
  · intro V hV; clear hV; go_simp; try rfl
  try simp only [List.setIfInBounds_toArray, List.set_cons_zero, List.set_cons_succ]
  refine wpAnyH_done (by kernel_rfl) ?_ _
  have HE := Lib.hid hHeld
  go_wp2
  go_ret
  exact ⟨rfl, B1.out.trans (belowLe (by have := B1.out.size; exact this) HE.out.2.2)⟩

set_option maxRecDepth 100000 in
set_option maxHeartbeats 4000000 in
theorem same2_any (a b : Ob) (f l c p i f' l' c' p' i' : Sl) (hs : a.fins.length ≤ 1000000 ∧ a.labels.length ≤ 1000000 ∧ a.cidrs.length ≤ 1000000 ∧ a.fams.length ≤ 1000000 ∧ a.ips.length ≤ 1000000) (w : World) (hr : RowsR w a f l c p i) (hq : RowsR w b f' l' c' p' i')
    (h0 : flatB a b = true) (h1 : decide (a.fins = b.fins) = true) (h2 : decide (a.labels = b.labels) = false) :
    Calls Try.prog 49 #[.agg (oc a f l c p i), .agg (oc b f' l' c' p' i')] w fun e w' => e = .returned (.bool false) ∧ Below w.heap.size w w' := by
  obtain ⟨w1, hw1⟩ : ∃ w1, w1 = (w.alloc (.cells (oc a f l c p i) 32)).alloc (.cells (oc b f' l' c' p' i') 32) := ⟨_, rfl⟩
  have b1 : Below w.heap.size w w1 := by rw [hw1]; exact G.bthen (bel_alloc _ _) (bel_alloc _ _)
  have p1 : w1.heap[w.heap.size]? = some (.cells (oc a f l c p i) 32 (0, 0)) := by
    rw [hw1]; exact ((bel_alloc _ _).block _ (by simp)).trans (G.heap_new _ _)
  have q1 : w1.heap[w.heap.size + 1]? = some (.cells (oc b f' l' c' p' i') 32 (0, 0)) := by
    rw [hw1]
    have h2 := G.heap_new (w.alloc (.cells (oc a f l c p i) 32)) (.cells (oc b f' l' c' p' i') 32)
    rw [show (w.alloc (.cells (oc a f l c p i) 32)).heap.size = w.heap.size + 1 by simp] at h2
    exact h2
  obtain ⟨x, hx⟩ : ∃ x, x = w.heap.size := ⟨_, rfl⟩
  obtain ⟨y, hy⟩ : ∃ y, y = w.heap.size + 1 := ⟨_, rfl⟩
  have heq := run_eq_flat a b true h0
  have ka0 : ∀ V : World, V.heap[x]? = some (.cells (oc a f l c p i) 32 (0, 0)) → V.cell? ⟨x, 0, none⟩ = some (.int .i64 a.kind) := fun V hV => by simp [World.cell?, hV, oc]
  have kb0 : ∀ V : World, V.heap[y]? = some (.cells (oc b f' l' c' p' i') 32 (0, 0)) → V.cell? ⟨y, 0, none⟩ = some (.int .i64 b.kind) := fun V hV => by simp [World.cell?, hV, oc]
  have ka1 : ∀ V : World, V.heap[x]? = some (.cells (oc a f l c p i) 32 (0, 0)) → V.cell? ⟨x, 1, none⟩ = some (.string a.name) := fun V hV => by simp [World.cell?, hV, oc]
  have kb1 : ∀ V : World, V.heap[y]? = some (.cells (oc b f' l' c' p' i') 32 (0, 0)) → V.cell? ⟨y, 1, none⟩ = some (.string b.name) := fun V hV => by simp [World.cell?, hV, oc]
  have ka2 : ∀ V : World, V.heap[x]? = some (.cells (oc a f l c p i) 32 (0, 0)) → V.cell? ⟨x, 2, none⟩ = some (.int .i64 a.uid) := fun V hV => by simp [World.cell?, hV, oc]
  have kb2 : ∀ V : World, V.heap[y]? = some (.cells (oc b f' l' c' p' i') 32 (0, 0)) → V.cell? ⟨y, 2, none⟩ = some (.int .i64 b.uid) := fun V hV => by simp [World.cell?, hV, oc]
  have ka3 : ∀ V : World, V.heap[x]? = some (.cells (oc a f l c p i) 32 (0, 0)) → V.cell? ⟨x, 3, none⟩ = some (.int .i64 a.version) := fun V hV => by simp [World.cell?, hV, oc]
  have kb3 : ∀ V : World, V.heap[y]? = some (.cells (oc b f' l' c' p' i') 32 (0, 0)) → V.cell? ⟨y, 3, none⟩ = some (.int .i64 b.version) := fun V hV => by simp [World.cell?, hV, oc]
  have ka4 : ∀ V : World, V.heap[x]? = some (.cells (oc a f l c p i) 32 (0, 0)) → V.cell? ⟨x, 4, none⟩ = some (.bool a.deleting) := fun V hV => by simp [World.cell?, hV, oc]
  have kb4 : ∀ V : World, V.heap[y]? = some (.cells (oc b f' l' c' p' i') 32 (0, 0)) → V.cell? ⟨y, 4, none⟩ = some (.bool b.deleting) := fun V hV => by simp [World.cell?, hV, oc]
  have ka5 : ∀ V : World, V.heap[x]? = some (.cells (oc a f l c p i) 32 (0, 0)) → V.cell? ⟨x, 5, none⟩ = some (.slice f.A a.fins.length f.c) := fun V hV => by simp [World.cell?, hV, oc]
  have kb5 : ∀ V : World, V.heap[y]? = some (.cells (oc b f' l' c' p' i') 32 (0, 0)) → V.cell? ⟨y, 5, none⟩ = some (.slice f'.A b.fins.length f'.c) := fun V hV => by simp [World.cell?, hV, oc]
  have ka6 : ∀ V : World, V.heap[x]? = some (.cells (oc a f l c p i) 32 (0, 0)) → V.cell? ⟨x, 6, none⟩ = some (.slice l.A a.labels.length l.c) := fun V hV => by simp [World.cell?, hV, oc]
  have kb6 : ∀ V : World, V.heap[y]? = some (.cells (oc b f' l' c' p' i') 32 (0, 0)) → V.cell? ⟨y, 6, none⟩ = some (.slice l'.A b.labels.length l'.c) := fun V hV => by simp [World.cell?, hV, oc]
  have ka7 : ∀ V : World, V.heap[x]? = some (.cells (oc a f l c p i) 32 (0, 0)) → V.cell? ⟨x, 7, none⟩ = some (.slice c.A a.cidrs.length c.c) := fun V hV => by simp [World.cell?, hV, oc]
  have kb7 : ∀ V : World, V.heap[y]? = some (.cells (oc b f' l' c' p' i') 32 (0, 0)) → V.cell? ⟨y, 7, none⟩ = some (.slice c'.A b.cidrs.length c'.c) := fun V hV => by simp [World.cell?, hV, oc]
  have ka8 : ∀ V : World, V.heap[x]? = some (.cells (oc a f l c p i) 32 (0, 0)) → V.cell? ⟨x, 8, none⟩ = some (.string a.status) := fun V hV => by simp [World.cell?, hV, oc]
  have kb8 : ∀ V : World, V.heap[y]? = some (.cells (oc b f' l' c' p' i') 32 (0, 0)) → V.cell? ⟨y, 8, none⟩ = some (.string b.status) := fun V hV => by simp [World.cell?, hV, oc]
  have ka9 : ∀ V : World, V.heap[x]? = some (.cells (oc a f l c p i) 32 (0, 0)) → V.cell? ⟨x, 9, none⟩ = some (.int .i64 a.type) := fun V hV => by simp [World.cell?, hV, oc]
  have kb9 : ∀ V : World, V.heap[y]? = some (.cells (oc b f' l' c' p' i') 32 (0, 0)) → V.cell? ⟨y, 9, none⟩ = some (.int .i64 b.type) := fun V hV => by simp [World.cell?, hV, oc]
  have ka10 : ∀ V : World, V.heap[x]? = some (.cells (oc a f l c p i) 32 (0, 0)) → V.cell? ⟨x, 10, none⟩ = some (.int .i64 a.policy) := fun V hV => by simp [World.cell?, hV, oc]
  have kb10 : ∀ V : World, V.heap[y]? = some (.cells (oc b f' l' c' p' i') 32 (0, 0)) → V.cell? ⟨y, 10, none⟩ = some (.int .i64 b.policy) := fun V hV => by simp [World.cell?, hV, oc]
  have ka11 : ∀ V : World, V.heap[x]? = some (.cells (oc a f l c p i) 32 (0, 0)) → V.cell? ⟨x, 11, none⟩ = some (.slice p.A a.fams.length p.c) := fun V hV => by simp [World.cell?, hV, oc]
  have kb11 : ∀ V : World, V.heap[y]? = some (.cells (oc b f' l' c' p' i') 32 (0, 0)) → V.cell? ⟨y, 11, none⟩ = some (.slice p'.A b.fams.length p'.c) := fun V hV => by simp [World.cell?, hV, oc]
  have ka12 : ∀ V : World, V.heap[x]? = some (.cells (oc a f l c p i) 32 (0, 0)) → V.cell? ⟨x, 12, none⟩ = some (.slice i.A a.ips.length i.c) := fun V hV => by simp [World.cell?, hV, oc]
  have kb12 : ∀ V : World, V.heap[y]? = some (.cells (oc b f' l' c' p' i') 32 (0, 0)) → V.cell? ⟨y, 12, none⟩ = some (.slice i'.A b.ips.length i'.c) := fun V hV => by simp [World.cell?, hV, oc]
  have ka13 : ∀ V : World, V.heap[x]? = some (.cells (oc a f l c p i) 32 (0, 0)) → V.cell? ⟨x, 13, none⟩ = some (.string a.v4) := fun V hV => by simp [World.cell?, hV, oc]
  have kb13 : ∀ V : World, V.heap[y]? = some (.cells (oc b f' l' c' p' i') 32 (0, 0)) → V.cell? ⟨y, 13, none⟩ = some (.string b.v4) := fun V hV => by simp [World.cell?, hV, oc]
  have ka14 : ∀ V : World, V.heap[x]? = some (.cells (oc a f l c p i) 32 (0, 0)) → V.cell? ⟨x, 14, none⟩ = some (.string a.v6) := fun V hV => by simp [World.cell?, hV, oc]
  have kb14 : ∀ V : World, V.heap[y]? = some (.cells (oc b f' l' c' p' i') 32 (0, 0)) → V.cell? ⟨y, 14, none⟩ = some (.string b.v6) := fun V hV => by simp [World.cell?, hV, oc]
  have ka15 : ∀ V : World, V.heap[x]? = some (.cells (oc a f l c p i) 32 (0, 0)) → V.cell? ⟨x, 15, none⟩ = some (.int .i64 a.bits) := fun V hV => by simp [World.cell?, hV, oc]
  have kb15 : ∀ V : World, V.heap[y]? = some (.cells (oc b f' l' c' p' i') 32 (0, 0)) → V.cell? ⟨y, 15, none⟩ = some (.int .i64 b.bits) := fun V hV => by simp [World.cell?, hV, oc]
  have ka16 : ∀ V : World, V.heap[x]? = some (.cells (oc a f l c p i) 32 (0, 0)) → V.cell? ⟨x, 16, none⟩ = some (.string a.sel) := fun V hV => by simp [World.cell?, hV, oc]
  have kb16 : ∀ V : World, V.heap[y]? = some (.cells (oc b f' l' c' p' i') 32 (0, 0)) → V.cell? ⟨y, 16, none⟩ = some (.string b.sel) := fun V hV => by simp [World.cell?, hV, oc]
  have ka17 : ∀ V : World, V.heap[x]? = some (.cells (oc a f l c p i) 32 (0, 0)) → V.cell? ⟨x, 17, none⟩ = some (.string a.about) := fun V hV => by simp [World.cell?, hV, oc]
  have kb17 : ∀ V : World, V.heap[y]? = some (.cells (oc b f' l' c' p' i') 32 (0, 0)) → V.cell? ⟨y, 17, none⟩ = some (.string b.about) := fun V hV => by simp [World.cell?, hV, oc]
  have ka18 : ∀ V : World, V.heap[x]? = some (.cells (oc a f l c p i) 32 (0, 0)) → V.cell? ⟨x, 18, none⟩ = some (.string a.reason) := fun V hV => by simp [World.cell?, hV, oc]
  have kb18 : ∀ V : World, V.heap[y]? = some (.cells (oc b f' l' c' p' i') 32 (0, 0)) → V.cell? ⟨y, 18, none⟩ = some (.string b.reason) := fun V hV => by simp [World.cell?, hV, oc]
  have hc0 : ∀ V, Below w1.heap.size w1 V → Calls Try.prog 85 #[.slice f.A a.fins.length f.c, .slice f'.A b.fins.length f'.c] V fun e w' => e = .returned (.bool true) ∧ Below V.heap.size V w' := fun V hV => by rw [← h1]; exact eqstr_any a.fins b.fins f.A f'.A f.c f'.c hs.1 V ((hr.fr.below b1).below hV) ((hq.fr.below b1).below hV)
  have HC0 := Lib.hid hc0
  have hc1 : ∀ V, Below w1.heap.size w1 V → Calls Try.prog 86 #[.slice l.A a.labels.length l.c, .slice l'.A b.labels.length l'.c] V fun e w' => e = .returned (.bool false) ∧ Below V.heap.size V w' := fun V hV => by rw [← h2]; exact eqpair_any a.labels b.labels l.A l'.A l.c l'.c hs.2.1 V ((hr.lr.below b1).below hV) ((hq.lr.below b1).below hV)
  have HC1 := Lib.hid hc1
  have HW := Lib.hid hw1
  have B1 := Lib.hid b1
  have lw : Hid (x < w1.heap.size ∧ y < w1.heap.size) := Lib.hid ⟨by rw [hx]; exact (Array.getElem?_eq_some_iff.1 p1).1, by rw [hy]; exact (Array.getElem?_eq_some_iff.1 q1).1⟩
  rw [← hx] at p1
  rw [← hy] at q1
  have P1 := Lib.hid p1
  have Q1 := Lib.hid q1
  clear b1 p1 q1 hw1 hr hq hs h0 hc0 h1 hc1 h2
  go_enter Try.func49, Try.ntmps49
  go_upto_region 1 with (fail)
  rw [← HW.out, ← hy, ← hx]
  clear hx hy
  refine wp_region_held_drew (S := fun V => V.heap[x]? = some (.cells (oc a f l c p i) 32 (0, 0)) ∧ V.heap[y]? = some (.cells (oc b f' l' c' p' i') 32 (0, 0)) ∧ Below w1.heap.size w1 V) (by kernel_rfl) ⟨P1.out, Q1.out, ⟨rfl, rfl, rfl, Nat.le_refl _, fun _ _ => rfl⟩⟩ (fun hS0 => ?_)
  refine takeH (i := 0) 5 (.agg (oc a f l c p i)) rfl rfl (by kernel_rfl) (by kernel_rfl) (by kernel_rfl) (fun _ _ _ h => h) (by rfl) ?_ (by assumption) ?_
  · exact load_row_yields 32 (.tmp 2) rfl x rfl 32 (oc a f l c p i) (0, 0) _ (fun V hV => hV.1) Try.underlying32 rfl size32
  try simp only [List.setIfInBounds_toArray, List.set_cons_zero, List.set_cons_succ]
  refine takeH (i := 2) 7 ((Value.agg (oc b f' l' c' p' i'))) rfl rfl (by kernel_rfl) (by kernel_rfl) (by kernel_rfl) (fun _ _ _ h => h) (by rfl) ?_ (by assumption) ?_
  · exact load_row_yields 32 (.tmp 3) rfl y rfl 32 (oc b f' l' c' p' i') (0, 0) _ (fun V hV => hV.2.1) Try.underlying32 rfl size32
  try simp only [List.setIfInBounds_toArray, List.set_cons_zero, List.set_cons_succ]
  refine wpAnyH_ready (rs := [1]) (by kernel_rfl) (by simp) ?_
  refine AllReadyH.cons rfl (fun K hK => ?_) AllReadyH.nil
  rw [if_pos (by rfl)]
  go_simp
  go_at_call 84
  refine (flatten_any a f l c p i _).mono ?_
  rintro e wf ⟨rfl, hb1⟩
  dsimp only
  refine hK.out _ _ (keepS lw.out (by assumption) hb1) (fun hHeld => ?_)
  clear hK K
  try simp only [Act.put, List.setIfInBounds_toArray, List.set_cons_zero, List.set_cons_succ]
  refine wpAnyH_ready (rs := [3]) (by kernel_rfl) (by simp) ?_
  refine AllReadyH.cons rfl (fun K hK => ?_) AllReadyH.nil
  rw [if_pos (by rfl)]
  go_simp
  go_at_call 84
  refine (flatten_any b f' l' c' p' i' _).mono ?_
  rintro e wg ⟨rfl, hb3⟩
  dsimp only
  refine hK.out _ _ (keepS lw.out (by assumption) hb3) (fun hHeld => ?_)
  clear hK K
  try simp only [Act.put, List.setIfInBounds_toArray, List.set_cons_zero, List.set_cons_succ]
  refine takeH (i := 4) 9 (.bool true) rfl rfl (by kernel_rfl) (by kernel_rfl) (by kernel_rfl) (fun _ _ _ h => h) (by rfl) ?_ (by assumption) ?_
  · intro V hV; clear hV; go_simp; try rfl
  try simp only [List.setIfInBounds_toArray, List.set_cons_zero, List.set_cons_succ]
  refine takeH (i := 5) 10 (.bool true) rfl rfl (by kernel_rfl) (by kernel_rfl) (by kernel_rfl) (fun _ _ _ h => h) (by rfl) ?_ (by assumption) ?_
  · intro V hV; clear hV; go_simp; try rfl
  try simp only [List.setIfInBounds_toArray, List.set_cons_zero, List.set_cons_succ]
  refine takeH (i := 6) 11 (.pointer (some ⟨x, 5, none⟩)) rfl rfl (by kernel_rfl) (by kernel_rfl) (by kernel_rfl) (fun _ _ _ h => h) (by rfl) ?_ (by assumption) ?_
  · intro V hV; clear hV; go_simp; try rfl
  try simp only [List.setIfInBounds_toArray, List.set_cons_zero, List.set_cons_succ]
  refine takeH (i := 7) 12 (.slice f.A a.fins.length f.c) rfl rfl (by kernel_rfl) (by kernel_rfl) (by kernel_rfl) (fun _ _ _ h => h) (by rfl) ?_ (by assumption) ?_
  · intro V hV; have hc := ka5 V hV.1; clear hV; go_simp; try rfl
  try simp only [List.setIfInBounds_toArray, List.set_cons_zero, List.set_cons_succ]
  refine takeH (i := 8) 13 (.pointer (some ⟨y, 5, none⟩)) rfl rfl (by kernel_rfl) (by kernel_rfl) (by kernel_rfl) (fun _ _ _ h => h) (by rfl) ?_ (by assumption) ?_
  · intro V hV; clear hV; go_simp; try rfl
  try simp only [List.setIfInBounds_toArray, List.set_cons_zero, List.set_cons_succ]
  refine takeH (i := 9) 14 (.slice f'.A b.fins.length f'.c) rfl rfl (by kernel_rfl) (by kernel_rfl) (by kernel_rfl) (fun _ _ _ h => h) (by rfl) ?_ (by assumption) ?_
  · intro V hV; have hc := kb5 V hV.2.1; clear hV; go_simp; try rfl
  try simp only [List.setIfInBounds_toArray, List.set_cons_zero, List.set_cons_succ]
  refine wpAnyH_ready (rs := [10]) (by kernel_rfl) (by simp) ?_
  refine AllReadyH.cons rfl (fun K hK => ?_) AllReadyH.nil
  rw [if_pos (by rfl)]
  go_simp
  go_at_call 85
  refine (HC0.out _ (And.right (And.right ‹_ ∧ _›))).mono ?_
  rintro e wq0 ⟨rfl, hb10⟩
  dsimp only
  refine hK.out _ _ (keepS lw.out (by assumption) hb10) (fun hHeld => ?_)
  clear hK K
  try simp only [Act.put, List.setIfInBounds_toArray, List.set_cons_zero, List.set_cons_succ]
  refine takeH (i := 11) 16 (.bool true) rfl rfl (by kernel_rfl) (by kernel_rfl) (by kernel_rfl) (fun _ _ _ h => h) (by rfl) ?_ (by assumption) ?_
  · intro V hV; clear hV; go_simp; try rfl
  try simp only [List.setIfInBounds_toArray, List.set_cons_zero, List.set_cons_succ]
  refine takeH (i := 12) 17 (.bool true) rfl rfl (by kernel_rfl) (by kernel_rfl) (by kernel_rfl) (fun _ _ _ h => h) (by rfl) ?_ (by assumption) ?_
  · intro V hV; clear hV; go_simp; try rfl
  try simp only [List.setIfInBounds_toArray, List.set_cons_zero, List.set_cons_succ]
  refine takeH (i := 13) 18 (.pointer (some ⟨x, 6, none⟩)) rfl rfl (by kernel_rfl) (by kernel_rfl) (by kernel_rfl) (fun _ _ _ h => h) (by rfl) ?_ (by assumption) ?_
  · intro V hV; clear hV; go_simp; try rfl
  try simp only [List.setIfInBounds_toArray, List.set_cons_zero, List.set_cons_succ]
  refine takeH (i := 14) 19 (.slice l.A a.labels.length l.c) rfl rfl (by kernel_rfl) (by kernel_rfl) (by kernel_rfl) (fun _ _ _ h => h) (by rfl) ?_ (by assumption) ?_
  · intro V hV; have hc := ka6 V hV.1; clear hV; go_simp; try rfl
  try simp only [List.setIfInBounds_toArray, List.set_cons_zero, List.set_cons_succ]
  refine takeH (i := 15) 20 (.pointer (some ⟨y, 6, none⟩)) rfl rfl (by kernel_rfl) (by kernel_rfl) (by kernel_rfl) (fun _ _ _ h => h) (by rfl) ?_ (by assumption) ?_
  · intro V hV; clear hV; go_simp; try rfl
  try simp only [List.setIfInBounds_toArray, List.set_cons_zero, List.set_cons_succ]
  refine takeH (i := 16) 21 (.slice l'.A b.labels.length l'.c) rfl rfl (by kernel_rfl) (by kernel_rfl) (by kernel_rfl) (fun _ _ _ h => h) (by rfl) ?_ (by assumption) ?_
  · intro V hV; have hc := kb6 V hV.2.1; clear hV; go_simp; try rfl
  try simp only [List.setIfInBounds_toArray, List.set_cons_zero, List.set_cons_succ]
  refine wpAnyH_ready (rs := [17]) (by kernel_rfl) (by simp) ?_
  refine AllReadyH.cons rfl (fun K hK => ?_) AllReadyH.nil
  rw [if_pos (by rfl)]
  go_simp
  go_at_call 86
  refine (HC1.out _ (And.right (And.right ‹_ ∧ _›))).mono ?_
  rintro e wq1 ⟨rfl, hb17⟩
  dsimp only
  refine hK.out _ _ (keepS lw.out (by assumption) hb17) (fun hHeld => ?_)
  clear hK K
  try simp only [Act.put, List.setIfInBounds_toArray, List.set_cons_zero, List.set_cons_succ]
  refine takeH (i := 18) 23 (.bool false) rfl rfl (by kernel_rfl) (by kernel_rfl) (by kernel_rfl) (fun _ _ _ h => h) (by rfl) ?_ (by assumption) ?_
  · intro V hV; clear hV; go_simp; try rfl
  try simp only [List.setIfInBounds_toArray, List.set_cons_zero, List.set_cons_succ]
  refine takeH (i := 19) 24 (.bool false) rfl rfl (by kernel_rfl) (by kernel_rfl) (by kernel_rfl) (fun _ _ _ h => h) (by rfl) ?_ (by assumption) ?_
  · intro V hV; clear hV; go_simp; try rfl
  try simp only [List.setIfInBounds_toArray, List.set_cons_zero, List.set_cons_succ]
  refine takeS (i := 20) 25 rfl rfl (by kernel_rfl) (by kernel_rfl) (by kernel_rfl) (fun _ _ _ h => h) (by rfl) (by assumption) ?_
  try simp only [List.setIfInBounds_toArray, List.set_cons_zero, List.set_cons_succ]
  refine takeS (i := 21) 26 rfl rfl (by kernel_rfl) (by kernel_rfl) (by kernel_rfl) (fun _ _ _ h => h) (by rfl) (by assumption) ?_
  try simp only [List.setIfInBounds_toArray, List.set_cons_zero, List.set_cons_succ]
  refine takeS (i := 22) 27 rfl rfl (by kernel_rfl) (by kernel_rfl) (by kernel_rfl) (fun _ _ _ h => h) (by rfl) (by assumption) ?_
  try simp only [List.setIfInBounds_toArray, List.set_cons_zero, List.set_cons_succ]
  refine takeS (i := 23) 28 rfl rfl (by kernel_rfl) (by kernel_rfl) (by kernel_rfl) (fun _ _ _ h => h) (by rfl) (by assumption) ?_
  try simp only [List.setIfInBounds_toArray, List.set_cons_zero, List.set_cons_succ]
  refine takeS (i := 24) 29 rfl rfl (by kernel_rfl) (by kernel_rfl) (by kernel_rfl) (fun _ _ _ h => h) (by rfl) (by assumption) ?_
  try simp only [List.setIfInBounds_toArray, List.set_cons_zero, List.set_cons_succ]
  refine takeH (i := 25) 30 (.bool false) rfl rfl (by kernel_rfl) (by kernel_rfl) (by kernel_rfl) (fun _ _ _ h => h) (by rfl) ?_ (by assumption) ?_
  · intro V hV; clear hV; go_simp; try rfl
  try simp only [List.setIfInBounds_toArray, List.set_cons_zero, List.set_cons_succ]
  refine takeH (i := 26) 31 (.bool false) rfl rfl (by kernel_rfl) (by kernel_rfl) (by kernel_rfl) (fun _ _ _ h => h) (by rfl) ?_ (by assumption) ?_
  · intro V hV; clear hV; go_simp; try rfl
  try simp only [List.setIfInBounds_toArray, List.set_cons_zero, List.set_cons_succ]
  refine takeS (i := 27) 32 rfl rfl (by kernel_rfl) (by kernel_rfl) (by kernel_rfl) (fun _ _ _ h => h) (by rfl) (by assumption) ?_
  try simp only [List.setIfInBounds_toArray, List.set_cons_zero, List.set_cons_succ]
  refine takeS (i := 28) 33 rfl rfl (by kernel_rfl) (by kernel_rfl) (by kernel_rfl) (fun _ _ _ h => h) (by rfl) (by assumption) ?_
  try simp only [List.setIfInBounds_toArray, List.set_cons_zero, List.set_cons_succ]
  refine takeS (i := 29) 34 rfl rfl (by kernel_rfl) (by kernel_rfl) (by kernel_rfl) (fun _ _ _ h => h) (by rfl) (by assumption) ?_
  try simp only [List.setIfInBounds_toArray, List.set_cons_zero, List.set_cons_succ]
  refine takeS (i := 30) 35 rfl rfl (by kernel_rfl) (by kernel_rfl) (by kernel_rfl) (fun _ _ _ h => h) (by rfl) (by assumption) ?_
  try simp only [List.setIfInBounds_toArray, List.set_cons_zero, List.set_cons_succ]
  refine takeS (i := 31) 36 rfl rfl (by kernel_rfl) (by kernel_rfl) (by kernel_rfl) (fun _ _ _ h => h) (by rfl) (by assumption) ?_
  try simp only [List.setIfInBounds_toArray, List.set_cons_zero, List.set_cons_succ]
  refine takeH (i := 32) 37 (.bool false) rfl rfl (by kernel_rfl) (by kernel_rfl) (by kernel_rfl) (fun _ _ _ h => h) (by rfl) ?_ (by assumption) ?_
  · intro V hV; clear hV; go_simp; try rfl
  try simp only [List.setIfInBounds_toArray, List.set_cons_zero, List.set_cons_succ]
  refine takeH (i := 33) 38 (.bool false) rfl rfl (by kernel_rfl) (by kernel_rfl) (by kernel_rfl) (fun _ _ _ h => h) (by rfl) ?_ (by assumption) ?_
  · intro V hV; clear hV; go_simp; try rfl
  try simp only [List.setIfInBounds_toArray, List.set_cons_zero, List.set_cons_succ]
  refine takeS (i := 34) 39 rfl rfl (by kernel_rfl) (by kernel_rfl) (by kernel_rfl) (fun _ _ _ h => h) (by rfl) (by assumption) ?_
  try simp only [List.setIfInBounds_toArray, List.set_cons_zero, List.set_cons_succ]
  refine takeS (i := 35) 40 rfl rfl (by kernel_rfl) (by kernel_rfl) (by kernel_rfl) (fun _ _ _ h => h) (by rfl) (by assumption) ?_
  try simp only [List.setIfInBounds_toArray, List.set_cons_zero, List.set_cons_succ]
  refine takeS (i := 36) 41 rfl rfl (by kernel_rfl) (by kernel_rfl) (by kernel_rfl) (fun _ _ _ h => h) (by rfl) (by assumption) ?_
  try simp only [List.setIfInBounds_toArray, List.set_cons_zero, List.set_cons_succ]
  refine takeS (i := 37) 42 rfl rfl (by kernel_rfl) (by kernel_rfl) (by kernel_rfl) (fun _ _ _ h => h) (by rfl) (by assumption) ?_
  try simp only [List.setIfInBounds_toArray, List.set_cons_zero, List.set_cons_succ]
  refine takeS (i := 38) 43 rfl rfl (by kernel_rfl) (by kernel_rfl) (by kernel_rfl) (fun _ _ _ h => h) (by rfl) (by assumption) ?_
  try simp only [List.setIfInBounds_toArray, List.set_cons_zero, List.set_cons_succ]
  refine takeH (i := 39) 44 (.bool false) rfl rfl (by kernel_rfl) (by kernel_rfl) (by kernel_rfl) (fun _ _ _ h => h) (by rfl) ?_ (by assumption) ?_
  · intro V hV; clear hV; go_simp; try rfl
  try simp only [List.setIfInBounds_toArray, List.set_cons_zero, List.set_cons_succ]
  refine takeH (i := 40) 4 (.bool false) rfl rfl (by kernel_rfl) (by kernel_rfl) (by kernel_rfl) (fun _ _ _ h => h) (by rfl) ?_ (by assumption) ?_
  · intro V hV; clear hV; go_simp; try rfl
  try simp only [List.setIfInBounds_toArray, List.set_cons_zero, List.set_cons_succ]
  refine wpAnyH_done (by kernel_rfl) ?_ _
  have HE := Lib.hid hHeld
  go_wp2
  go_ret
  exact ⟨rfl, B1.out.trans (belowLe (by have := B1.out.size; exact this) HE.out.2.2)⟩

set_option maxRecDepth 100000 in
set_option maxHeartbeats 4000000 in
theorem same3_any (a b : Ob) (f l c p i f' l' c' p' i' : Sl) (hs : a.fins.length ≤ 1000000 ∧ a.labels.length ≤ 1000000 ∧ a.cidrs.length ≤ 1000000 ∧ a.fams.length ≤ 1000000 ∧ a.ips.length ≤ 1000000) (w : World) (hr : RowsR w a f l c p i) (hq : RowsR w b f' l' c' p' i')
    (h0 : flatB a b = true) (h1 : decide (a.fins = b.fins) = true) (h2 : decide (a.labels = b.labels) = true) (h3 : decide (a.cidrs = b.cidrs) = false) :
    Calls Try.prog 49 #[.agg (oc a f l c p i), .agg (oc b f' l' c' p' i')] w fun e w' => e = .returned (.bool false) ∧ Below w.heap.size w w' := by
  obtain ⟨w1, hw1⟩ : ∃ w1, w1 = (w.alloc (.cells (oc a f l c p i) 32)).alloc (.cells (oc b f' l' c' p' i') 32) := ⟨_, rfl⟩
  have b1 : Below w.heap.size w w1 := by rw [hw1]; exact G.bthen (bel_alloc _ _) (bel_alloc _ _)
  have p1 : w1.heap[w.heap.size]? = some (.cells (oc a f l c p i) 32 (0, 0)) := by
    rw [hw1]; exact ((bel_alloc _ _).block _ (by simp)).trans (G.heap_new _ _)
  have q1 : w1.heap[w.heap.size + 1]? = some (.cells (oc b f' l' c' p' i') 32 (0, 0)) := by
    rw [hw1]
    have h2 := G.heap_new (w.alloc (.cells (oc a f l c p i) 32)) (.cells (oc b f' l' c' p' i') 32)
    rw [show (w.alloc (.cells (oc a f l c p i) 32)).heap.size = w.heap.size + 1 by simp] at h2
    exact h2
  obtain ⟨x, hx⟩ : ∃ x, x = w.heap.size := ⟨_, rfl⟩
  obtain ⟨y, hy⟩ : ∃ y, y = w.heap.size + 1 := ⟨_, rfl⟩
  have heq := run_eq_flat a b true h0
  have ka0 : ∀ V : World, V.heap[x]? = some (.cells (oc a f l c p i) 32 (0, 0)) → V.cell? ⟨x, 0, none⟩ = some (.int .i64 a.kind) := fun V hV => by simp [World.cell?, hV, oc]
  have kb0 : ∀ V : World, V.heap[y]? = some (.cells (oc b f' l' c' p' i') 32 (0, 0)) → V.cell? ⟨y, 0, none⟩ = some (.int .i64 b.kind) := fun V hV => by simp [World.cell?, hV, oc]
  have ka1 : ∀ V : World, V.heap[x]? = some (.cells (oc a f l c p i) 32 (0, 0)) → V.cell? ⟨x, 1, none⟩ = some (.string a.name) := fun V hV => by simp [World.cell?, hV, oc]
  have kb1 : ∀ V : World, V.heap[y]? = some (.cells (oc b f' l' c' p' i') 32 (0, 0)) → V.cell? ⟨y, 1, none⟩ = some (.string b.name) := fun V hV => by simp [World.cell?, hV, oc]
  have ka2 : ∀ V : World, V.heap[x]? = some (.cells (oc a f l c p i) 32 (0, 0)) → V.cell? ⟨x, 2, none⟩ = some (.int .i64 a.uid) := fun V hV => by simp [World.cell?, hV, oc]
  have kb2 : ∀ V : World, V.heap[y]? = some (.cells (oc b f' l' c' p' i') 32 (0, 0)) → V.cell? ⟨y, 2, none⟩ = some (.int .i64 b.uid) := fun V hV => by simp [World.cell?, hV, oc]
  have ka3 : ∀ V : World, V.heap[x]? = some (.cells (oc a f l c p i) 32 (0, 0)) → V.cell? ⟨x, 3, none⟩ = some (.int .i64 a.version) := fun V hV => by simp [World.cell?, hV, oc]
  have kb3 : ∀ V : World, V.heap[y]? = some (.cells (oc b f' l' c' p' i') 32 (0, 0)) → V.cell? ⟨y, 3, none⟩ = some (.int .i64 b.version) := fun V hV => by simp [World.cell?, hV, oc]
  have ka4 : ∀ V : World, V.heap[x]? = some (.cells (oc a f l c p i) 32 (0, 0)) → V.cell? ⟨x, 4, none⟩ = some (.bool a.deleting) := fun V hV => by simp [World.cell?, hV, oc]
  have kb4 : ∀ V : World, V.heap[y]? = some (.cells (oc b f' l' c' p' i') 32 (0, 0)) → V.cell? ⟨y, 4, none⟩ = some (.bool b.deleting) := fun V hV => by simp [World.cell?, hV, oc]
  have ka5 : ∀ V : World, V.heap[x]? = some (.cells (oc a f l c p i) 32 (0, 0)) → V.cell? ⟨x, 5, none⟩ = some (.slice f.A a.fins.length f.c) := fun V hV => by simp [World.cell?, hV, oc]
  have kb5 : ∀ V : World, V.heap[y]? = some (.cells (oc b f' l' c' p' i') 32 (0, 0)) → V.cell? ⟨y, 5, none⟩ = some (.slice f'.A b.fins.length f'.c) := fun V hV => by simp [World.cell?, hV, oc]
  have ka6 : ∀ V : World, V.heap[x]? = some (.cells (oc a f l c p i) 32 (0, 0)) → V.cell? ⟨x, 6, none⟩ = some (.slice l.A a.labels.length l.c) := fun V hV => by simp [World.cell?, hV, oc]
  have kb6 : ∀ V : World, V.heap[y]? = some (.cells (oc b f' l' c' p' i') 32 (0, 0)) → V.cell? ⟨y, 6, none⟩ = some (.slice l'.A b.labels.length l'.c) := fun V hV => by simp [World.cell?, hV, oc]
  have ka7 : ∀ V : World, V.heap[x]? = some (.cells (oc a f l c p i) 32 (0, 0)) → V.cell? ⟨x, 7, none⟩ = some (.slice c.A a.cidrs.length c.c) := fun V hV => by simp [World.cell?, hV, oc]
  have kb7 : ∀ V : World, V.heap[y]? = some (.cells (oc b f' l' c' p' i') 32 (0, 0)) → V.cell? ⟨y, 7, none⟩ = some (.slice c'.A b.cidrs.length c'.c) := fun V hV => by simp [World.cell?, hV, oc]
  have ka8 : ∀ V : World, V.heap[x]? = some (.cells (oc a f l c p i) 32 (0, 0)) → V.cell? ⟨x, 8, none⟩ = some (.string a.status) := fun V hV => by simp [World.cell?, hV, oc]
  have kb8 : ∀ V : World, V.heap[y]? = some (.cells (oc b f' l' c' p' i') 32 (0, 0)) → V.cell? ⟨y, 8, none⟩ = some (.string b.status) := fun V hV => by simp [World.cell?, hV, oc]
  have ka9 : ∀ V : World, V.heap[x]? = some (.cells (oc a f l c p i) 32 (0, 0)) → V.cell? ⟨x, 9, none⟩ = some (.int .i64 a.type) := fun V hV => by simp [World.cell?, hV, oc]
  have kb9 : ∀ V : World, V.heap[y]? = some (.cells (oc b f' l' c' p' i') 32 (0, 0)) → V.cell? ⟨y, 9, none⟩ = some (.int .i64 b.type) := fun V hV => by simp [World.cell?, hV, oc]
  have ka10 : ∀ V : World, V.heap[x]? = some (.cells (oc a f l c p i) 32 (0, 0)) → V.cell? ⟨x, 10, none⟩ = some (.int .i64 a.policy) := fun V hV => by simp [World.cell?, hV, oc]
  have kb10 : ∀ V : World, V.heap[y]? = some (.cells (oc b f' l' c' p' i') 32 (0, 0)) → V.cell? ⟨y, 10, none⟩ = some (.int .i64 b.policy) := fun V hV => by simp [World.cell?, hV, oc]
  have ka11 : ∀ V : World, V.heap[x]? = some (.cells (oc a f l c p i) 32 (0, 0)) → V.cell? ⟨x, 11, none⟩ = some (.slice p.A a.fams.length p.c) := fun V hV => by simp [World.cell?, hV, oc]
  have kb11 : ∀ V : World, V.heap[y]? = some (.cells (oc b f' l' c' p' i') 32 (0, 0)) → V.cell? ⟨y, 11, none⟩ = some (.slice p'.A b.fams.length p'.c) := fun V hV => by simp [World.cell?, hV, oc]
  have ka12 : ∀ V : World, V.heap[x]? = some (.cells (oc a f l c p i) 32 (0, 0)) → V.cell? ⟨x, 12, none⟩ = some (.slice i.A a.ips.length i.c) := fun V hV => by simp [World.cell?, hV, oc]
  have kb12 : ∀ V : World, V.heap[y]? = some (.cells (oc b f' l' c' p' i') 32 (0, 0)) → V.cell? ⟨y, 12, none⟩ = some (.slice i'.A b.ips.length i'.c) := fun V hV => by simp [World.cell?, hV, oc]
  have ka13 : ∀ V : World, V.heap[x]? = some (.cells (oc a f l c p i) 32 (0, 0)) → V.cell? ⟨x, 13, none⟩ = some (.string a.v4) := fun V hV => by simp [World.cell?, hV, oc]
  have kb13 : ∀ V : World, V.heap[y]? = some (.cells (oc b f' l' c' p' i') 32 (0, 0)) → V.cell? ⟨y, 13, none⟩ = some (.string b.v4) := fun V hV => by simp [World.cell?, hV, oc]
  have ka14 : ∀ V : World, V.heap[x]? = some (.cells (oc a f l c p i) 32 (0, 0)) → V.cell? ⟨x, 14, none⟩ = some (.string a.v6) := fun V hV => by simp [World.cell?, hV, oc]
  have kb14 : ∀ V : World, V.heap[y]? = some (.cells (oc b f' l' c' p' i') 32 (0, 0)) → V.cell? ⟨y, 14, none⟩ = some (.string b.v6) := fun V hV => by simp [World.cell?, hV, oc]
  have ka15 : ∀ V : World, V.heap[x]? = some (.cells (oc a f l c p i) 32 (0, 0)) → V.cell? ⟨x, 15, none⟩ = some (.int .i64 a.bits) := fun V hV => by simp [World.cell?, hV, oc]
  have kb15 : ∀ V : World, V.heap[y]? = some (.cells (oc b f' l' c' p' i') 32 (0, 0)) → V.cell? ⟨y, 15, none⟩ = some (.int .i64 b.bits) := fun V hV => by simp [World.cell?, hV, oc]
  have ka16 : ∀ V : World, V.heap[x]? = some (.cells (oc a f l c p i) 32 (0, 0)) → V.cell? ⟨x, 16, none⟩ = some (.string a.sel) := fun V hV => by simp [World.cell?, hV, oc]
  have kb16 : ∀ V : World, V.heap[y]? = some (.cells (oc b f' l' c' p' i') 32 (0, 0)) → V.cell? ⟨y, 16, none⟩ = some (.string b.sel) := fun V hV => by simp [World.cell?, hV, oc]
  have ka17 : ∀ V : World, V.heap[x]? = some (.cells (oc a f l c p i) 32 (0, 0)) → V.cell? ⟨x, 17, none⟩ = some (.string a.about) := fun V hV => by simp [World.cell?, hV, oc]
  have kb17 : ∀ V : World, V.heap[y]? = some (.cells (oc b f' l' c' p' i') 32 (0, 0)) → V.cell? ⟨y, 17, none⟩ = some (.string b.about) := fun V hV => by simp [World.cell?, hV, oc]
  have ka18 : ∀ V : World, V.heap[x]? = some (.cells (oc a f l c p i) 32 (0, 0)) → V.cell? ⟨x, 18, none⟩ = some (.string a.reason) := fun V hV => by simp [World.cell?, hV, oc]
  have kb18 : ∀ V : World, V.heap[y]? = some (.cells (oc b f' l' c' p' i') 32 (0, 0)) → V.cell? ⟨y, 18, none⟩ = some (.string b.reason) := fun V hV => by simp [World.cell?, hV, oc]
  have hc0 : ∀ V, Below w1.heap.size w1 V → Calls Try.prog 85 #[.slice f.A a.fins.length f.c, .slice f'.A b.fins.length f'.c] V fun e w' => e = .returned (.bool true) ∧ Below V.heap.size V w' := fun V hV => by rw [← h1]; exact eqstr_any a.fins b.fins f.A f'.A f.c f'.c hs.1 V ((hr.fr.below b1).below hV) ((hq.fr.below b1).below hV)
  have HC0 := Lib.hid hc0
  have hc1 : ∀ V, Below w1.heap.size w1 V → Calls Try.prog 86 #[.slice l.A a.labels.length l.c, .slice l'.A b.labels.length l'.c] V fun e w' => e = .returned (.bool true) ∧ Below V.heap.size V w' := fun V hV => by rw [← h2]; exact eqpair_any a.labels b.labels l.A l'.A l.c l'.c hs.2.1 V ((hr.lr.below b1).below hV) ((hq.lr.below b1).below hV)
  have HC1 := Lib.hid hc1
  have hc2 : ∀ V, Below w1.heap.size w1 V → Calls Try.prog 85 #[.slice c.A a.cidrs.length c.c, .slice c'.A b.cidrs.length c'.c] V fun e w' => e = .returned (.bool false) ∧ Below V.heap.size V w' := fun V hV => by rw [← h3]; exact eqstr_any a.cidrs b.cidrs c.A c'.A c.c c'.c hs.2.2.1 V ((hr.cr.below b1).below hV) ((hq.cr.below b1).below hV)
  have HC2 := Lib.hid hc2
  have HW := Lib.hid hw1
  have B1 := Lib.hid b1
  have lw : Hid (x < w1.heap.size ∧ y < w1.heap.size) := Lib.hid ⟨by rw [hx]; exact (Array.getElem?_eq_some_iff.1 p1).1, by rw [hy]; exact (Array.getElem?_eq_some_iff.1 q1).1⟩
  rw [← hx] at p1
  rw [← hy] at q1
  have P1 := Lib.hid p1
  have Q1 := Lib.hid q1
  clear b1 p1 q1 hw1 hr hq hs h0 hc0 h1 hc1 h2 hc2 h3
  go_enter Try.func49, Try.ntmps49
  go_upto_region 1 with (fail)
  rw [← HW.out, ← hy, ← hx]
  clear hx hy
  refine wp_region_held_drew (S := fun V => V.heap[x]? = some (.cells (oc a f l c p i) 32 (0, 0)) ∧ V.heap[y]? = some (.cells (oc b f' l' c' p' i') 32 (0, 0)) ∧ Below w1.heap.size w1 V) (by kernel_rfl) ⟨P1.out, Q1.out, ⟨rfl, rfl, rfl, Nat.le_refl _, fun _ _ => rfl⟩⟩ (fun hS0 => ?_)
  refine takeH (i := 0) 5 (.agg (oc a f l c p i)) rfl rfl (by kernel_rfl) (by kernel_rfl) (by kernel_rfl) (fun _ _ _ h => h) (by rfl) ?_ (by assumption) ?_
  · exact load_row_yields 32 (.tmp 2) rfl x rfl 32 (oc a f l c p i) (0, 0) _ (fun V hV => hV.1) Try.underlying32 rfl size32
  try simp only [List.setIfInBounds_toArray, List.set_cons_zero, List.set_cons_succ]
  refine takeH (i := 2) 7 ((Value.agg (oc b f' l' c' p' i'))) rfl rfl (by kernel_rfl) (by kernel_rfl) (by kernel_rfl) (fun _ _ _ h => h) (by rfl) ?_ (by assumption) ?_
  · exact load_row_yields 32 (.tmp 3) rfl y rfl 32 (oc b f' l' c' p' i') (0, 0) _ (fun V hV => hV.2.1) Try.underlying32 rfl size32
  try simp only [List.setIfInBounds_toArray, List.set_cons_zero, List.set_cons_succ]
  refine wpAnyH_ready (rs := [1]) (by kernel_rfl) (by simp) ?_
  refine AllReadyH.cons rfl (fun K hK => ?_) AllReadyH.nil
  rw [if_pos (by rfl)]
  go_simp
  go_at_call 84
  refine (flatten_any a f l c p i _).mono ?_
  rintro e wf ⟨rfl, hb1⟩
  dsimp only
  refine hK.out _ _ (keepS lw.out (by assumption) hb1) (fun hHeld => ?_)
  clear hK K
  try simp only [Act.put, List.setIfInBounds_toArray, List.set_cons_zero, List.set_cons_succ]
  refine wpAnyH_ready (rs := [3]) (by kernel_rfl) (by simp) ?_
  refine AllReadyH.cons rfl (fun K hK => ?_) AllReadyH.nil
  rw [if_pos (by rfl)]
  go_simp
  go_at_call 84
  refine (flatten_any b f' l' c' p' i' _).mono ?_
  rintro e wg ⟨rfl, hb3⟩
  dsimp only
  refine hK.out _ _ (keepS lw.out (by assumption) hb3) (fun hHeld => ?_)
  clear hK K
  try simp only [Act.put, List.setIfInBounds_toArray, List.set_cons_zero, List.set_cons_succ]
  refine takeH (i := 4) 9 (.bool true) rfl rfl (by kernel_rfl) (by kernel_rfl) (by kernel_rfl) (fun _ _ _ h => h) (by rfl) ?_ (by assumption) ?_
  · intro V hV; clear hV; go_simp; try rfl
  try simp only [List.setIfInBounds_toArray, List.set_cons_zero, List.set_cons_succ]
  refine takeH (i := 5) 10 (.bool true) rfl rfl (by kernel_rfl) (by kernel_rfl) (by kernel_rfl) (fun _ _ _ h => h) (by rfl) ?_ (by assumption) ?_
  · intro V hV; clear hV; go_simp; try rfl
  try simp only [List.setIfInBounds_toArray, List.set_cons_zero, List.set_cons_succ]
  refine takeH (i := 6) 11 (.pointer (some ⟨x, 5, none⟩)) rfl rfl (by kernel_rfl) (by kernel_rfl) (by kernel_rfl) (fun _ _ _ h => h) (by rfl) ?_ (by assumption) ?_
  · intro V hV; clear hV; go_simp; try rfl
  try simp only [List.setIfInBounds_toArray, List.set_cons_zero, List.set_cons_succ]
  refine takeH (i := 7) 12 (.slice f.A a.fins.length f.c) rfl rfl (by kernel_rfl) (by kernel_rfl) (by kernel_rfl) (fun _ _ _ h => h) (by rfl) ?_ (by assumption) ?_
  · intro V hV; have hc := ka5 V hV.1; clear hV; go_simp; try rfl
  try simp only [List.setIfInBounds_toArray, List.set_cons_zero, List.set_cons_succ]
  refine takeH (i := 8) 13 (.pointer (some ⟨y, 5, none⟩)) rfl rfl (by kernel_rfl) (by kernel_rfl) (by kernel_rfl) (fun _ _ _ h => h) (by rfl) ?_ (by assumption) ?_
  · intro V hV; clear hV; go_simp; try rfl
  try simp only [List.setIfInBounds_toArray, List.set_cons_zero, List.set_cons_succ]
  refine takeH (i := 9) 14 (.slice f'.A b.fins.length f'.c) rfl rfl (by kernel_rfl) (by kernel_rfl) (by kernel_rfl) (fun _ _ _ h => h) (by rfl) ?_ (by assumption) ?_
  · intro V hV; have hc := kb5 V hV.2.1; clear hV; go_simp; try rfl
  try simp only [List.setIfInBounds_toArray, List.set_cons_zero, List.set_cons_succ]
  refine wpAnyH_ready (rs := [10]) (by kernel_rfl) (by simp) ?_
  refine AllReadyH.cons rfl (fun K hK => ?_) AllReadyH.nil
  rw [if_pos (by rfl)]
  go_simp
  go_at_call 85
  refine (HC0.out _ (And.right (And.right ‹_ ∧ _›))).mono ?_
  rintro e wq0 ⟨rfl, hb10⟩
  dsimp only
  refine hK.out _ _ (keepS lw.out (by assumption) hb10) (fun hHeld => ?_)
  clear hK K
  try simp only [Act.put, List.setIfInBounds_toArray, List.set_cons_zero, List.set_cons_succ]
  refine takeH (i := 11) 16 (.bool true) rfl rfl (by kernel_rfl) (by kernel_rfl) (by kernel_rfl) (fun _ _ _ h => h) (by rfl) ?_ (by assumption) ?_
  · intro V hV; clear hV; go_simp; try rfl
  try simp only [List.setIfInBounds_toArray, List.set_cons_zero, List.set_cons_succ]
  refine takeH (i := 12) 17 (.bool true) rfl rfl (by kernel_rfl) (by kernel_rfl) (by kernel_rfl) (fun _ _ _ h => h) (by rfl) ?_ (by assumption) ?_
  · intro V hV; clear hV; go_simp; try rfl
  try simp only [List.setIfInBounds_toArray, List.set_cons_zero, List.set_cons_succ]
  refine takeH (i := 13) 18 (.pointer (some ⟨x, 6, none⟩)) rfl rfl (by kernel_rfl) (by kernel_rfl) (by kernel_rfl) (fun _ _ _ h => h) (by rfl) ?_ (by assumption) ?_
  · intro V hV; clear hV; go_simp; try rfl
  try simp only [List.setIfInBounds_toArray, List.set_cons_zero, List.set_cons_succ]
  refine takeH (i := 14) 19 (.slice l.A a.labels.length l.c) rfl rfl (by kernel_rfl) (by kernel_rfl) (by kernel_rfl) (fun _ _ _ h => h) (by rfl) ?_ (by assumption) ?_
  · intro V hV; have hc := ka6 V hV.1; clear hV; go_simp; try rfl
  try simp only [List.setIfInBounds_toArray, List.set_cons_zero, List.set_cons_succ]
  refine takeH (i := 15) 20 (.pointer (some ⟨y, 6, none⟩)) rfl rfl (by kernel_rfl) (by kernel_rfl) (by kernel_rfl) (fun _ _ _ h => h) (by rfl) ?_ (by assumption) ?_
  · intro V hV; clear hV; go_simp; try rfl
  try simp only [List.setIfInBounds_toArray, List.set_cons_zero, List.set_cons_succ]
  refine takeH (i := 16) 21 (.slice l'.A b.labels.length l'.c) rfl rfl (by kernel_rfl) (by kernel_rfl) (by kernel_rfl) (fun _ _ _ h => h) (by rfl) ?_ (by assumption) ?_
  · intro V hV; have hc := kb6 V hV.2.1; clear hV; go_simp; try rfl
  try simp only [List.setIfInBounds_toArray, List.set_cons_zero, List.set_cons_succ]
  refine wpAnyH_ready (rs := [17]) (by kernel_rfl) (by simp) ?_
  refine AllReadyH.cons rfl (fun K hK => ?_) AllReadyH.nil
  rw [if_pos (by rfl)]
  go_simp
  go_at_call 86
  refine (HC1.out _ (And.right (And.right ‹_ ∧ _›))).mono ?_
  rintro e wq1 ⟨rfl, hb17⟩
  dsimp only
  refine hK.out _ _ (keepS lw.out (by assumption) hb17) (fun hHeld => ?_)
  clear hK K
  try simp only [Act.put, List.setIfInBounds_toArray, List.set_cons_zero, List.set_cons_succ]
  refine takeH (i := 18) 23 (.bool true) rfl rfl (by kernel_rfl) (by kernel_rfl) (by kernel_rfl) (fun _ _ _ h => h) (by rfl) ?_ (by assumption) ?_
  · intro V hV; clear hV; go_simp; try rfl
  try simp only [List.setIfInBounds_toArray, List.set_cons_zero, List.set_cons_succ]
  refine takeH (i := 19) 24 (.bool true) rfl rfl (by kernel_rfl) (by kernel_rfl) (by kernel_rfl) (fun _ _ _ h => h) (by rfl) ?_ (by assumption) ?_
  · intro V hV; clear hV; go_simp; try rfl
  try simp only [List.setIfInBounds_toArray, List.set_cons_zero, List.set_cons_succ]
  refine takeH (i := 20) 25 (.pointer (some ⟨x, 7, none⟩)) rfl rfl (by kernel_rfl) (by kernel_rfl) (by kernel_rfl) (fun _ _ _ h => h) (by rfl) ?_ (by assumption) ?_
  · intro V hV; clear hV; go_simp; try rfl
  try simp only [List.setIfInBounds_toArray, List.set_cons_zero, List.set_cons_succ]
  refine takeH (i := 21) 26 (.slice c.A a.cidrs.length c.c) rfl rfl (by kernel_rfl) (by kernel_rfl) (by kernel_rfl) (fun _ _ _ h => h) (by rfl) ?_ (by assumption) ?_
  · intro V hV; have hc := ka7 V hV.1; clear hV; go_simp; try rfl
  try simp only [List.setIfInBounds_toArray, List.set_cons_zero, List.set_cons_succ]
  refine takeH (i := 22) 27 (.pointer (some ⟨y, 7, none⟩)) rfl rfl (by kernel_rfl) (by kernel_rfl) (by kernel_rfl) (fun _ _ _ h => h) (by rfl) ?_ (by assumption) ?_
  · intro V hV; clear hV; go_simp; try rfl
  try simp only [List.setIfInBounds_toArray, List.set_cons_zero, List.set_cons_succ]
  refine takeH (i := 23) 28 (.slice c'.A b.cidrs.length c'.c) rfl rfl (by kernel_rfl) (by kernel_rfl) (by kernel_rfl) (fun _ _ _ h => h) (by rfl) ?_ (by assumption) ?_
  · intro V hV; have hc := kb7 V hV.2.1; clear hV; go_simp; try rfl
  try simp only [List.setIfInBounds_toArray, List.set_cons_zero, List.set_cons_succ]
  refine wpAnyH_ready (rs := [24]) (by kernel_rfl) (by simp) ?_
  refine AllReadyH.cons rfl (fun K hK => ?_) AllReadyH.nil
  rw [if_pos (by rfl)]
  go_simp
  go_at_call 85
  refine (HC2.out _ (And.right (And.right ‹_ ∧ _›))).mono ?_
  rintro e wq2 ⟨rfl, hb24⟩
  dsimp only
  refine hK.out _ _ (keepS lw.out (by assumption) hb24) (fun hHeld => ?_)
  clear hK K
  try simp only [Act.put, List.setIfInBounds_toArray, List.set_cons_zero, List.set_cons_succ]
  refine takeH (i := 25) 30 (.bool false) rfl rfl (by kernel_rfl) (by kernel_rfl) (by kernel_rfl) (fun _ _ _ h => h) (by rfl) ?_ (by assumption) ?_
  · intro V hV; clear hV; go_simp; try rfl
  try simp only [List.setIfInBounds_toArray, List.set_cons_zero, List.set_cons_succ]
  refine takeH (i := 26) 31 (.bool false) rfl rfl (by kernel_rfl) (by kernel_rfl) (by kernel_rfl) (fun _ _ _ h => h) (by rfl) ?_ (by assumption) ?_
  · intro V hV; clear hV; go_simp; try rfl
  try simp only [List.setIfInBounds_toArray, List.set_cons_zero, List.set_cons_succ]
  refine takeS (i := 27) 32 rfl rfl (by kernel_rfl) (by kernel_rfl) (by kernel_rfl) (fun _ _ _ h => h) (by rfl) (by assumption) ?_
  try simp only [List.setIfInBounds_toArray, List.set_cons_zero, List.set_cons_succ]
  refine takeS (i := 28) 33 rfl rfl (by kernel_rfl) (by kernel_rfl) (by kernel_rfl) (fun _ _ _ h => h) (by rfl) (by assumption) ?_
  try simp only [List.setIfInBounds_toArray, List.set_cons_zero, List.set_cons_succ]
  refine takeS (i := 29) 34 rfl rfl (by kernel_rfl) (by kernel_rfl) (by kernel_rfl) (fun _ _ _ h => h) (by rfl) (by assumption) ?_
  try simp only [List.setIfInBounds_toArray, List.set_cons_zero, List.set_cons_succ]
  refine takeS (i := 30) 35 rfl rfl (by kernel_rfl) (by kernel_rfl) (by kernel_rfl) (fun _ _ _ h => h) (by rfl) (by assumption) ?_
  try simp only [List.setIfInBounds_toArray, List.set_cons_zero, List.set_cons_succ]
  refine takeS (i := 31) 36 rfl rfl (by kernel_rfl) (by kernel_rfl) (by kernel_rfl) (fun _ _ _ h => h) (by rfl) (by assumption) ?_
  try simp only [List.setIfInBounds_toArray, List.set_cons_zero, List.set_cons_succ]
  refine takeH (i := 32) 37 (.bool false) rfl rfl (by kernel_rfl) (by kernel_rfl) (by kernel_rfl) (fun _ _ _ h => h) (by rfl) ?_ (by assumption) ?_
  · intro V hV; clear hV; go_simp; try rfl
  try simp only [List.setIfInBounds_toArray, List.set_cons_zero, List.set_cons_succ]
  refine takeH (i := 33) 38 (.bool false) rfl rfl (by kernel_rfl) (by kernel_rfl) (by kernel_rfl) (fun _ _ _ h => h) (by rfl) ?_ (by assumption) ?_
  · intro V hV; clear hV; go_simp; try rfl
  try simp only [List.setIfInBounds_toArray, List.set_cons_zero, List.set_cons_succ]
  refine takeS (i := 34) 39 rfl rfl (by kernel_rfl) (by kernel_rfl) (by kernel_rfl) (fun _ _ _ h => h) (by rfl) (by assumption) ?_
  try simp only [List.setIfInBounds_toArray, List.set_cons_zero, List.set_cons_succ]
  refine takeS (i := 35) 40 rfl rfl (by kernel_rfl) (by kernel_rfl) (by kernel_rfl) (fun _ _ _ h => h) (by rfl) (by assumption) ?_
  try simp only [List.setIfInBounds_toArray, List.set_cons_zero, List.set_cons_succ]
  refine takeS (i := 36) 41 rfl rfl (by kernel_rfl) (by kernel_rfl) (by kernel_rfl) (fun _ _ _ h => h) (by rfl) (by assumption) ?_
  try simp only [List.setIfInBounds_toArray, List.set_cons_zero, List.set_cons_succ]
  refine takeS (i := 37) 42 rfl rfl (by kernel_rfl) (by kernel_rfl) (by kernel_rfl) (fun _ _ _ h => h) (by rfl) (by assumption) ?_
  try simp only [List.setIfInBounds_toArray, List.set_cons_zero, List.set_cons_succ]
  refine takeS (i := 38) 43 rfl rfl (by kernel_rfl) (by kernel_rfl) (by kernel_rfl) (fun _ _ _ h => h) (by rfl) (by assumption) ?_
  try simp only [List.setIfInBounds_toArray, List.set_cons_zero, List.set_cons_succ]
  refine takeH (i := 39) 44 (.bool false) rfl rfl (by kernel_rfl) (by kernel_rfl) (by kernel_rfl) (fun _ _ _ h => h) (by rfl) ?_ (by assumption) ?_
  · intro V hV; clear hV; go_simp; try rfl
  try simp only [List.setIfInBounds_toArray, List.set_cons_zero, List.set_cons_succ]
  refine takeH (i := 40) 4 (.bool false) rfl rfl (by kernel_rfl) (by kernel_rfl) (by kernel_rfl) (fun _ _ _ h => h) (by rfl) ?_ (by assumption) ?_
  · intro V hV; clear hV; go_simp; try rfl
  try simp only [List.setIfInBounds_toArray, List.set_cons_zero, List.set_cons_succ]
  refine wpAnyH_done (by kernel_rfl) ?_ _
  have HE := Lib.hid hHeld
  go_wp2
  go_ret
  exact ⟨rfl, B1.out.trans (belowLe (by have := B1.out.size; exact this) HE.out.2.2)⟩

set_option maxRecDepth 100000 in
set_option maxHeartbeats 4000000 in
theorem same4_any (a b : Ob) (f l c p i f' l' c' p' i' : Sl) (hs : a.fins.length ≤ 1000000 ∧ a.labels.length ≤ 1000000 ∧ a.cidrs.length ≤ 1000000 ∧ a.fams.length ≤ 1000000 ∧ a.ips.length ≤ 1000000) (w : World) (hr : RowsR w a f l c p i) (hq : RowsR w b f' l' c' p' i')
    (h0 : flatB a b = true) (h1 : decide (a.fins = b.fins) = true) (h2 : decide (a.labels = b.labels) = true) (h3 : decide (a.cidrs = b.cidrs) = true) (h4 : decide (a.fams = b.fams) = false) :
    Calls Try.prog 49 #[.agg (oc a f l c p i), .agg (oc b f' l' c' p' i')] w fun e w' => e = .returned (.bool false) ∧ Below w.heap.size w w' := by
  obtain ⟨w1, hw1⟩ : ∃ w1, w1 = (w.alloc (.cells (oc a f l c p i) 32)).alloc (.cells (oc b f' l' c' p' i') 32) := ⟨_, rfl⟩
  have b1 : Below w.heap.size w w1 := by rw [hw1]; exact G.bthen (bel_alloc _ _) (bel_alloc _ _)
  have p1 : w1.heap[w.heap.size]? = some (.cells (oc a f l c p i) 32 (0, 0)) := by
    rw [hw1]; exact ((bel_alloc _ _).block _ (by simp)).trans (G.heap_new _ _)
  have q1 : w1.heap[w.heap.size + 1]? = some (.cells (oc b f' l' c' p' i') 32 (0, 0)) := by
    rw [hw1]
    have h2 := G.heap_new (w.alloc (.cells (oc a f l c p i) 32)) (.cells (oc b f' l' c' p' i') 32)
    rw [show (w.alloc (.cells (oc a f l c p i) 32)).heap.size = w.heap.size + 1 by simp] at h2
    exact h2
  obtain ⟨x, hx⟩ : ∃ x, x = w.heap.size := ⟨_, rfl⟩
  obtain ⟨y, hy⟩ : ∃ y, y = w.heap.size + 1 := ⟨_, rfl⟩
  have heq := run_eq_flat a b true h0
  have ka0 : ∀ V : World, V.heap[x]? = some (.cells (oc a f l c p i) 32 (0, 0)) → V.cell? ⟨x, 0, none⟩ = some (.int .i64 a.kind) := fun V hV => by simp [World.cell?, hV, oc]
  have kb0 : ∀ V : World, V.heap[y]? = some (.cells (oc b f' l' c' p' i') 32 (0, 0)) → V.cell? ⟨y, 0, none⟩ = some (.int .i64 b.kind) := fun V hV => by simp [World.cell?, hV, oc]
  have ka1 : ∀ V : World, V.heap[x]? = some (.cells (oc a f l c p i) 32 (0, 0)) → V.cell? ⟨x, 1, none⟩ = some (.string a.name) := fun V hV => by simp [World.cell?, hV, oc]
  have kb1 : ∀ V : World, V.heap[y]? = some (.cells (oc b f' l' c' p' i') 32 (0, 0)) → V.cell? ⟨y, 1, none⟩ = some (.string b.name) := fun V hV => by simp [World.cell?, hV, oc]
  have ka2 : ∀ V : World, V.heap[x]? = some (.cells (oc a f l c p i) 32 (0, 0)) → V.cell? ⟨x, 2, none⟩ = some (.int .i64 a.uid) := fun V hV => by simp [World.cell?, hV, oc]
  have kb2 : ∀ V : World, V.heap[y]? = some (.cells (oc b f' l' c' p' i') 32 (0, 0)) → V.cell? ⟨y, 2, none⟩ = some (.int .i64 b.uid) := fun V hV => by simp [World.cell?, hV, oc]
  have ka3 : ∀ V : World, V.heap[x]? = some (.cells (oc a f l c p i) 32 (0, 0)) → V.cell? ⟨x, 3, none⟩ = some (.int .i64 a.version) := fun V hV => by simp [World.cell?, hV, oc]
  have kb3 : ∀ V : World, V.heap[y]? = some (.cells (oc b f' l' c' p' i') 32 (0, 0)) → V.cell? ⟨y, 3, none⟩ = some (.int .i64 b.version) := fun V hV => by simp [World.cell?, hV, oc]
  have ka4 : ∀ V : World, V.heap[x]? = some (.cells (oc a f l c p i) 32 (0, 0)) → V.cell? ⟨x, 4, none⟩ = some (.bool a.deleting) := fun V hV => by simp [World.cell?, hV, oc]
  have kb4 : ∀ V : World, V.heap[y]? = some (.cells (oc b f' l' c' p' i') 32 (0, 0)) → V.cell? ⟨y, 4, none⟩ = some (.bool b.deleting) := fun V hV => by simp [World.cell?, hV, oc]
  have ka5 : ∀ V : World, V.heap[x]? = some (.cells (oc a f l c p i) 32 (0, 0)) → V.cell? ⟨x, 5, none⟩ = some (.slice f.A a.fins.length f.c) := fun V hV => by simp [World.cell?, hV, oc]
  have kb5 : ∀ V : World, V.heap[y]? = some (.cells (oc b f' l' c' p' i') 32 (0, 0)) → V.cell? ⟨y, 5, none⟩ = some (.slice f'.A b.fins.length f'.c) := fun V hV => by simp [World.cell?, hV, oc]
  have ka6 : ∀ V : World, V.heap[x]? = some (.cells (oc a f l c p i) 32 (0, 0)) → V.cell? ⟨x, 6, none⟩ = some (.slice l.A a.labels.length l.c) := fun V hV => by simp [World.cell?, hV, oc]
  have kb6 : ∀ V : World, V.heap[y]? = some (.cells (oc b f' l' c' p' i') 32 (0, 0)) → V.cell? ⟨y, 6, none⟩ = some (.slice l'.A b.labels.length l'.c) := fun V hV => by simp [World.cell?, hV, oc]
  have ka7 : ∀ V : World, V.heap[x]? = some (.cells (oc a f l c p i) 32 (0, 0)) → V.cell? ⟨x, 7, none⟩ = some (.slice c.A a.cidrs.length c.c) := fun V hV => by simp [World.cell?, hV, oc]
  have kb7 : ∀ V : World, V.heap[y]? = some (.cells (oc b f' l' c' p' i') 32 (0, 0)) → V.cell? ⟨y, 7, none⟩ = some (.slice c'.A b.cidrs.length c'.c) := fun V hV => by simp [World.cell?, hV, oc]
  have ka8 : ∀ V : World, V.heap[x]? = some (.cells (oc a f l c p i) 32 (0, 0)) → V.cell? ⟨x, 8, none⟩ = some (.string a.status) := fun V hV => by simp [World.cell?, hV, oc]
  have kb8 : ∀ V : World, V.heap[y]? = some (.cells (oc b f' l' c' p' i') 32 (0, 0)) → V.cell? ⟨y, 8, none⟩ = some (.string b.status) := fun V hV => by simp [World.cell?, hV, oc]
  have ka9 : ∀ V : World, V.heap[x]? = some (.cells (oc a f l c p i) 32 (0, 0)) → V.cell? ⟨x, 9, none⟩ = some (.int .i64 a.type) := fun V hV => by simp [World.cell?, hV, oc]
  have kb9 : ∀ V : World, V.heap[y]? = some (.cells (oc b f' l' c' p' i') 32 (0, 0)) → V.cell? ⟨y, 9, none⟩ = some (.int .i64 b.type) := fun V hV => by simp [World.cell?, hV, oc]
  have ka10 : ∀ V : World, V.heap[x]? = some (.cells (oc a f l c p i) 32 (0, 0)) → V.cell? ⟨x, 10, none⟩ = some (.int .i64 a.policy) := fun V hV => by simp [World.cell?, hV, oc]
  have kb10 : ∀ V : World, V.heap[y]? = some (.cells (oc b f' l' c' p' i') 32 (0, 0)) → V.cell? ⟨y, 10, none⟩ = some (.int .i64 b.policy) := fun V hV => by simp [World.cell?, hV, oc]
  have ka11 : ∀ V : World, V.heap[x]? = some (.cells (oc a f l c p i) 32 (0, 0)) → V.cell? ⟨x, 11, none⟩ = some (.slice p.A a.fams.length p.c) := fun V hV => by simp [World.cell?, hV, oc]
  have kb11 : ∀ V : World, V.heap[y]? = some (.cells (oc b f' l' c' p' i') 32 (0, 0)) → V.cell? ⟨y, 11, none⟩ = some (.slice p'.A b.fams.length p'.c) := fun V hV => by simp [World.cell?, hV, oc]
  have ka12 : ∀ V : World, V.heap[x]? = some (.cells (oc a f l c p i) 32 (0, 0)) → V.cell? ⟨x, 12, none⟩ = some (.slice i.A a.ips.length i.c) := fun V hV => by simp [World.cell?, hV, oc]
  have kb12 : ∀ V : World, V.heap[y]? = some (.cells (oc b f' l' c' p' i') 32 (0, 0)) → V.cell? ⟨y, 12, none⟩ = some (.slice i'.A b.ips.length i'.c) := fun V hV => by simp [World.cell?, hV, oc]
  have ka13 : ∀ V : World, V.heap[x]? = some (.cells (oc a f l c p i) 32 (0, 0)) → V.cell? ⟨x, 13, none⟩ = some (.string a.v4) := fun V hV => by simp [World.cell?, hV, oc]
  have kb13 : ∀ V : World, V.heap[y]? = some (.cells (oc b f' l' c' p' i') 32 (0, 0)) → V.cell? ⟨y, 13, none⟩ = some (.string b.v4) := fun V hV => by simp [World.cell?, hV, oc]
  have ka14 : ∀ V : World, V.heap[x]? = some (.cells (oc a f l c p i) 32 (0, 0)) → V.cell? ⟨x, 14, none⟩ = some (.string a.v6) := fun V hV => by simp [World.cell?, hV, oc]
  have kb14 : ∀ V : World, V.heap[y]? = some (.cells (oc b f' l' c' p' i') 32 (0, 0)) → V.cell? ⟨y, 14, none⟩ = some (.string b.v6) := fun V hV => by simp [World.cell?, hV, oc]
  have ka15 : ∀ V : World, V.heap[x]? = some (.cells (oc a f l c p i) 32 (0, 0)) → V.cell? ⟨x, 15, none⟩ = some (.int .i64 a.bits) := fun V hV => by simp [World.cell?, hV, oc]
  have kb15 : ∀ V : World, V.heap[y]? = some (.cells (oc b f' l' c' p' i') 32 (0, 0)) → V.cell? ⟨y, 15, none⟩ = some (.int .i64 b.bits) := fun V hV => by simp [World.cell?, hV, oc]
  have ka16 : ∀ V : World, V.heap[x]? = some (.cells (oc a f l c p i) 32 (0, 0)) → V.cell? ⟨x, 16, none⟩ = some (.string a.sel) := fun V hV => by simp [World.cell?, hV, oc]
  have kb16 : ∀ V : World, V.heap[y]? = some (.cells (oc b f' l' c' p' i') 32 (0, 0)) → V.cell? ⟨y, 16, none⟩ = some (.string b.sel) := fun V hV => by simp [World.cell?, hV, oc]
  have ka17 : ∀ V : World, V.heap[x]? = some (.cells (oc a f l c p i) 32 (0, 0)) → V.cell? ⟨x, 17, none⟩ = some (.string a.about) := fun V hV => by simp [World.cell?, hV, oc]
  have kb17 : ∀ V : World, V.heap[y]? = some (.cells (oc b f' l' c' p' i') 32 (0, 0)) → V.cell? ⟨y, 17, none⟩ = some (.string b.about) := fun V hV => by simp [World.cell?, hV, oc]
  have ka18 : ∀ V : World, V.heap[x]? = some (.cells (oc a f l c p i) 32 (0, 0)) → V.cell? ⟨x, 18, none⟩ = some (.string a.reason) := fun V hV => by simp [World.cell?, hV, oc]
  have kb18 : ∀ V : World, V.heap[y]? = some (.cells (oc b f' l' c' p' i') 32 (0, 0)) → V.cell? ⟨y, 18, none⟩ = some (.string b.reason) := fun V hV => by simp [World.cell?, hV, oc]
  have hc0 : ∀ V, Below w1.heap.size w1 V → Calls Try.prog 85 #[.slice f.A a.fins.length f.c, .slice f'.A b.fins.length f'.c] V fun e w' => e = .returned (.bool true) ∧ Below V.heap.size V w' := fun V hV => by rw [← h1]; exact eqstr_any a.fins b.fins f.A f'.A f.c f'.c hs.1 V ((hr.fr.below b1).below hV) ((hq.fr.below b1).below hV)
  have HC0 := Lib.hid hc0
  have hc1 : ∀ V, Below w1.heap.size w1 V → Calls Try.prog 86 #[.slice l.A a.labels.length l.c, .slice l'.A b.labels.length l'.c] V fun e w' => e = .returned (.bool true) ∧ Below V.heap.size V w' := fun V hV => by rw [← h2]; exact eqpair_any a.labels b.labels l.A l'.A l.c l'.c hs.2.1 V ((hr.lr.below b1).below hV) ((hq.lr.below b1).below hV)
  have HC1 := Lib.hid hc1
  have hc2 : ∀ V, Below w1.heap.size w1 V → Calls Try.prog 85 #[.slice c.A a.cidrs.length c.c, .slice c'.A b.cidrs.length c'.c] V fun e w' => e = .returned (.bool true) ∧ Below V.heap.size V w' := fun V hV => by rw [← h3]; exact eqstr_any a.cidrs b.cidrs c.A c'.A c.c c'.c hs.2.2.1 V ((hr.cr.below b1).below hV) ((hq.cr.below b1).below hV)
  have HC2 := Lib.hid hc2
  have hc3 : ∀ V, Below w1.heap.size w1 V → Calls Try.prog 87 #[.slice p.A a.fams.length p.c, .slice p'.A b.fams.length p'.c] V fun e w' => e = .returned (.bool false) ∧ Below V.heap.size V w' := fun V hV => by rw [← h4]; exact eqint_any a.fams b.fams p.A p'.A p.c p'.c hs.2.2.2.1 V ((hr.pr.below b1).below hV) ((hq.pr.below b1).below hV)
  have HC3 := Lib.hid hc3
  have HW := Lib.hid hw1
  have B1 := Lib.hid b1
  have lw : Hid (x < w1.heap.size ∧ y < w1.heap.size) := Lib.hid ⟨by rw [hx]; exact (Array.getElem?_eq_some_iff.1 p1).1, by rw [hy]; exact (Array.getElem?_eq_some_iff.1 q1).1⟩
  rw [← hx] at p1
  rw [← hy] at q1
  have P1 := Lib.hid p1
  have Q1 := Lib.hid q1
  clear b1 p1 q1 hw1 hr hq hs h0 hc0 h1 hc1 h2 hc2 h3 hc3 h4
  go_enter Try.func49, Try.ntmps49
  go_upto_region 1 with (fail)
  rw [← HW.out, ← hy, ← hx]
  clear hx hy
  refine wp_region_held_drew (S := fun V => V.heap[x]? = some (.cells (oc a f l c p i) 32 (0, 0)) ∧ V.heap[y]? = some (.cells (oc b f' l' c' p' i') 32 (0, 0)) ∧ Below w1.heap.size w1 V) (by kernel_rfl) ⟨P1.out, Q1.out, ⟨rfl, rfl, rfl, Nat.le_refl _, fun _ _ => rfl⟩⟩ (fun hS0 => ?_)
  refine takeH (i := 0) 5 (.agg (oc a f l c p i)) rfl rfl (by kernel_rfl) (by kernel_rfl) (by kernel_rfl) (fun _ _ _ h => h) (by rfl) ?_ (by assumption) ?_
  · exact load_row_yields 32 (.tmp 2) rfl x rfl 32 (oc a f l c p i) (0, 0) _ (fun V hV => hV.1) Try.underlying32 rfl size32
  try simp only [List.setIfInBounds_toArray, List.set_cons_zero, List.set_cons_succ]
  refine takeH (i := 2) 7 ((Value.agg (oc b f' l' c' p' i'))) rfl rfl (by kernel_rfl) (by kernel_rfl) (by kernel_rfl) (fun _ _ _ h => h) (by rfl) ?_ (by assumption) ?_
  · exact load_row_yields 32 (.tmp 3) rfl y rfl 32 (oc b f' l' c' p' i') (0, 0) _ (fun V hV => hV.2.1) Try.underlying32 rfl size32
  try simp only [List.setIfInBounds_toArray, List.set_cons_zero, List.set_cons_succ]
  refine wpAnyH_ready (rs := [1]) (by kernel_rfl) (by simp) ?_
  refine AllReadyH.cons rfl (fun K hK => ?_) AllReadyH.nil
  rw [if_pos (by rfl)]
  go_simp
  go_at_call 84
  refine (flatten_any a f l c p i _).mono ?_
  rintro e wf ⟨rfl, hb1⟩
  dsimp only
  refine hK.out _ _ (keepS lw.out (by assumption) hb1) (fun hHeld => ?_)
  clear hK K
  try simp only [Act.put, List.setIfInBounds_toArray, List.set_cons_zero, List.set_cons_succ]
  refine wpAnyH_ready (rs := [3]) (by kernel_rfl) (by simp) ?_
  refine AllReadyH.cons rfl (fun K hK => ?_) AllReadyH.nil
  rw [if_pos (by rfl)]
  go_simp
  go_at_call 84
  refine (flatten_any b f' l' c' p' i' _).mono ?_
  rintro e wg ⟨rfl, hb3⟩
  dsimp only
  refine hK.out _ _ (keepS lw.out (by assumption) hb3) (fun hHeld => ?_)
  clear hK K
  try simp only [Act.put, List.setIfInBounds_toArray, List.set_cons_zero, List.set_cons_succ]
  refine takeH (i := 4) 9 (.bool true) rfl rfl (by kernel_rfl) (by kernel_rfl) (by kernel_rfl) (fun _ _ _ h => h) (by rfl) ?_ (by assumption) ?_
  · intro V hV; clear hV; go_simp; try rfl
  try simp only [List.setIfInBounds_toArray, List.set_cons_zero, List.set_cons_succ]
  refine takeH (i := 5) 10 (.bool true) rfl rfl (by kernel_rfl) (by kernel_rfl) (by kernel_rfl) (fun _ _ _ h => h) (by rfl) ?_ (by assumption) ?_
  · intro V hV; clear hV; go_simp; try rfl
  try simp only [List.setIfInBounds_toArray, List.set_cons_zero, List.set_cons_succ]
  refine takeH (i := 6) 11 (.pointer (some ⟨x, 5, none⟩)) rfl rfl (by kernel_rfl) (by kernel_rfl) (by kernel_rfl) (fun _ _ _ h => h) (by rfl) ?_ (by assumption) ?_
  · intro V hV; clear hV; go_simp; try rfl
  try simp only [List.setIfInBounds_toArray, List.set_cons_zero, List.set_cons_succ]
  refine takeH (i := 7) 12 (.slice f.A a.fins.length f.c) rfl rfl (by kernel_rfl) (by kernel_rfl) (by kernel_rfl) (fun _ _ _ h => h) (by rfl) ?_ (by assumption) ?_
  · intro V hV; have hc := ka5 V hV.1; clear hV; go_simp; try rfl
  try simp only [List.setIfInBounds_toArray, List.set_cons_zero, List.set_cons_succ]
  refine takeH (i := 8) 13 (.pointer (some ⟨y, 5, none⟩)) rfl rfl (by kernel_rfl) (by kernel_rfl) (by kernel_rfl) (fun _ _ _ h => h) (by rfl) ?_ (by assumption) ?_
  · intro V hV; clear hV; go_simp; try rfl
  try simp only [List.setIfInBounds_toArray, List.set_cons_zero, List.set_cons_succ]
  refine takeH (i := 9) 14 (.slice f'.A b.fins.length f'.c) rfl rfl (by kernel_rfl) (by kernel_rfl) (by kernel_rfl) (fun _ _ _ h => h) (by rfl) ?_ (by assumption) ?_
  · intro V hV; have hc := kb5 V hV.2.1; clear hV; go_simp; try rfl
  try simp only [List.setIfInBounds_toArray, List.set_cons_zero, List.set_cons_succ]
  refine wpAnyH_ready (rs := [10]) (by kernel_rfl) (by simp) ?_
  refine AllReadyH.cons rfl (fun K hK => ?_) AllReadyH.nil
  rw [if_pos (by rfl)]
  go_simp
  go_at_call 85
  refine (HC0.out _ (And.right (And.right ‹_ ∧ _›))).mono ?_
  rintro e wq0 ⟨rfl, hb10⟩
  dsimp only
  refine hK.out _ _ (keepS lw.out (by assumption) hb10) (fun hHeld => ?_)
  clear hK K
  try simp only [Act.put, List.setIfInBounds_toArray, List.set_cons_zero, List.set_cons_succ]
  refine takeH (i := 11) 16 (.bool true) rfl rfl (by kernel_rfl) (by kernel_rfl) (by kernel_rfl) (fun _ _ _ h => h) (by rfl) ?_ (by assumption) ?_
  · intro V hV; clear hV; go_simp; try rfl
  try simp only [List.setIfInBounds_toArray, List.set_cons_zero, List.set_cons_succ]
  refine takeH (i := 12) 17 (.bool true) rfl rfl (by kernel_rfl) (by kernel_rfl) (by kernel_rfl) (fun _ _ _ h => h) (by rfl) ?_ (by assumption) ?_
  · intro V hV; clear hV; go_simp; try rfl
  try simp only [List.setIfInBounds_toArray, List.set_cons_zero, List.set_cons_succ]
  refine takeH (i := 13) 18 (.pointer (some ⟨x, 6, none⟩)) rfl rfl (by kernel_rfl) (by kernel_rfl) (by kernel_rfl) (fun _ _ _ h => h) (by rfl) ?_ (by assumption) ?_
  · intro V hV; clear hV; go_simp; try rfl
  try simp only [List.setIfInBounds_toArray, List.set_cons_zero, List.set_cons_succ]
  refine takeH (i := 14) 19 (.slice l.A a.labels.length l.c) rfl rfl (by kernel_rfl) (by kernel_rfl) (by kernel_rfl) (fun _ _ _ h => h) (by rfl) ?_ (by assumption) ?_
  · intro V hV; have hc := ka6 V hV.1; clear hV; go_simp; try rfl
  try simp only [List.setIfInBounds_toArray, List.set_cons_zero, List.set_cons_succ]
  refine takeH (i := 15) 20 (.pointer (some ⟨y, 6, none⟩)) rfl rfl (by kernel_rfl) (by kernel_rfl) (by kernel_rfl) (fun _ _ _ h => h) (by rfl) ?_ (by assumption) ?_
  · intro V hV; clear hV; go_simp; try rfl
  try simp only [List.setIfInBounds_toArray, List.set_cons_zero, List.set_cons_succ]
  refine takeH (i := 16) 21 (.slice l'.A b.labels.length l'.c) rfl rfl (by kernel_rfl) (by kernel_rfl) (by kernel_rfl) (fun _ _ _ h => h) (by rfl) ?_ (by assumption) ?_
  · intro V hV; have hc := kb6 V hV.2.1; clear hV; go_simp; try rfl
  try simp only [List.setIfInBounds_toArray, List.set_cons_zero, List.set_cons_succ]
  refine wpAnyH_ready (rs := [17]) (by kernel_rfl) (by simp) ?_
  refine AllReadyH.cons rfl (fun K hK => ?_) AllReadyH.nil
  rw [if_pos (by rfl)]
  go_simp
  go_at_call 86
  refine (HC1.out _ (And.right (And.right ‹_ ∧ _›))).mono ?_
  rintro e wq1 ⟨rfl, hb17⟩
  dsimp only
  refine hK.out _ _ (keepS lw.out (by assumption) hb17) (fun hHeld => ?_)
  clear hK K
  try simp only [Act.put, List.setIfInBounds_toArray, List.set_cons_zero, List.set_cons_succ]
  refine takeH (i := 18) 23 (.bool true) rfl rfl (by kernel_rfl) (by kernel_rfl) (by kernel_rfl) (fun _ _ _ h => h) (by rfl) ?_ (by assumption) ?_
  · intro V hV; clear hV; go_simp; try rfl
  try simp only [List.setIfInBounds_toArray, List.set_cons_zero, List.set_cons_succ]
  refine takeH (i := 19) 24 (.bool true) rfl rfl (by kernel_rfl) (by kernel_rfl) (by kernel_rfl) (fun _ _ _ h => h) (by rfl) ?_ (by assumption) ?_
  · intro V hV; clear hV; go_simp; try rfl
  try simp only [List.setIfInBounds_toArray, List.set_cons_zero, List.set_cons_succ]
  refine takeH (i := 20) 25 (.pointer (some ⟨x, 7, none⟩)) rfl rfl (by kernel_rfl) (by kernel_rfl) (by kernel_rfl) (fun _ _ _ h => h) (by rfl) ?_ (by assumption) ?_
  · intro V hV; clear hV; go_simp; try rfl
  try simp only [List.setIfInBounds_toArray, List.set_cons_zero, List.set_cons_succ]
  refine takeH (i := 21) 26 (.slice c.A a.cidrs.length c.c) rfl rfl (by kernel_rfl) (by kernel_rfl) (by kernel_rfl) (fun _ _ _ h => h) (by rfl) ?_ (by assumption) ?_
  · intro V hV; have hc := ka7 V hV.1; clear hV; go_simp; try rfl
  try simp only [List.setIfInBounds_toArray, List.set_cons_zero, List.set_cons_succ]
  refine takeH (i := 22) 27 (.pointer (some ⟨y, 7, none⟩)) rfl rfl (by kernel_rfl) (by kernel_rfl) (by kernel_rfl) (fun _ _ _ h => h) (by rfl) ?_ (by assumption) ?_
  · intro V hV; clear hV; go_simp; try rfl
  try simp only [List.setIfInBounds_toArray, List.set_cons_zero, List.set_cons_succ]
  refine takeH (i := 23) 28 (.slice c'.A b.cidrs.length c'.c) rfl rfl (by kernel_rfl) (by kernel_rfl) (by kernel_rfl) (fun _ _ _ h => h) (by rfl) ?_ (by assumption) ?_
  · intro V hV; have hc := kb7 V hV.2.1; clear hV; go_simp; try rfl
  try simp only [List.setIfInBounds_toArray, List.set_cons_zero, List.set_cons_succ]
  refine wpAnyH_ready (rs := [24]) (by kernel_rfl) (by simp) ?_
  refine AllReadyH.cons rfl (fun K hK => ?_) AllReadyH.nil
  rw [if_pos (by rfl)]
  go_simp
  go_at_call 85
  refine (HC2.out _ (And.right (And.right ‹_ ∧ _›))).mono ?_
  rintro e wq2 ⟨rfl, hb24⟩
  dsimp only
  refine hK.out _ _ (keepS lw.out (by assumption) hb24) (fun hHeld => ?_)
  clear hK K
  try simp only [Act.put, List.setIfInBounds_toArray, List.set_cons_zero, List.set_cons_succ]
  refine takeH (i := 25) 30 (.bool true) rfl rfl (by kernel_rfl) (by kernel_rfl) (by kernel_rfl) (fun _ _ _ h => h) (by rfl) ?_ (by assumption) ?_
  · intro V hV; clear hV; go_simp; try rfl
  try simp only [List.setIfInBounds_toArray, List.set_cons_zero, List.set_cons_succ]
  refine takeH (i := 26) 31 (.bool true) rfl rfl (by kernel_rfl) (by kernel_rfl) (by kernel_rfl) (fun _ _ _ h => h) (by rfl) ?_ (by assumption) ?_
  · intro V hV; clear hV; go_simp; try rfl
  try simp only [List.setIfInBounds_toArray, List.set_cons_zero, List.set_cons_succ]
  refine takeH (i := 27) 32 (.pointer (some ⟨x, 11, none⟩)) rfl rfl (by kernel_rfl) (by kernel_rfl) (by kernel_rfl) (fun _ _ _ h => h) (by rfl) ?_ (by assumption) ?_
  · intro V hV; clear hV; go_simp; try rfl
  try simp only [List.setIfInBounds_toArray, List.set_cons_zero, List.set_cons_succ]
  refine takeH (i := 28) 33 (.slice p.A a.fams.length p.c) rfl rfl (by kernel_rfl) (by kernel_rfl) (by kernel_rfl) (fun _ _ _ h => h) (by rfl) ?_ (by assumption) ?_
  · intro V hV; have hc := ka11 V hV.1; clear hV; go_simp; try rfl
  try simp only [List.setIfInBounds_toArray, List.set_cons_zero, List.set_cons_succ]
  refine takeH (i := 29) 34 (.pointer (some ⟨y, 11, none⟩)) rfl rfl (by kernel_rfl) (by kernel_rfl) (by kernel_rfl) (fun _ _ _ h => h) (by rfl) ?_ (by assumption) ?_
  · intro V hV; clear hV; go_simp; try rfl
  try simp only [List.setIfInBounds_toArray, List.set_cons_zero, List.set_cons_succ]
  refine takeH (i := 30) 35 (.slice p'.A b.fams.length p'.c) rfl rfl (by kernel_rfl) (by kernel_rfl) (by kernel_rfl) (fun _ _ _ h => h) (by rfl) ?_ (by assumption) ?_
  · intro V hV; have hc := kb11 V hV.2.1; clear hV; go_simp; try rfl
  try simp only [List.setIfInBounds_toArray, List.set_cons_zero, List.set_cons_succ]
  refine wpAnyH_ready (rs := [31]) (by kernel_rfl) (by simp) ?_
  refine AllReadyH.cons rfl (fun K hK => ?_) AllReadyH.nil
  rw [if_pos (by rfl)]
  go_simp
  go_at_call 87
  refine (HC3.out _ (And.right (And.right ‹_ ∧ _›))).mono ?_
  rintro e wq3 ⟨rfl, hb31⟩
  dsimp only
  refine hK.out _ _ (keepS lw.out (by assumption) hb31) (fun hHeld => ?_)
  clear hK K
  try simp only [Act.put, List.setIfInBounds_toArray, List.set_cons_zero, List.set_cons_succ]
  refine takeH (i := 32) 37 (.bool false) rfl rfl (by kernel_rfl) (by kernel_rfl) (by kernel_rfl) (fun _ _ _ h => h) (by rfl) ?_ (by assumption) ?_
  · intro V hV; clear hV; go_simp; try rfl
  try simp only [List.setIfInBounds_toArray, List.set_cons_zero, List.set_cons_succ]
  refine takeH (i := 33) 38 (.bool false) rfl rfl (by kernel_rfl) (by kernel_rfl) (by kernel_rfl) (fun _ _ _ h => h) (by rfl) ?_ (by assumption) ?_
  · intro V hV; clear hV; go_simp; try rfl
  try simp only [List.setIfInBounds_toArray, List.set_cons_zero, List.set_cons_succ]
  refine takeS (i := 34) 39 rfl rfl (by kernel_rfl) (by kernel_rfl) (by kernel_rfl) (fun _ _ _ h => h) (by rfl) (by assumption) ?_
  try simp only [List.setIfInBounds_toArray, List.set_cons_zero, List.set_cons_succ]
  refine takeS (i := 35) 40 rfl rfl (by kernel_rfl) (by kernel_rfl) (by kernel_rfl) (fun _ _ _ h => h) (by rfl) (by assumption) ?_
  try simp only [List.setIfInBounds_toArray, List.set_cons_zero, List.set_cons_succ]
  refine takeS (i := 36) 41 rfl rfl (by kernel_rfl) (by kernel_rfl) (by kernel_rfl) (fun _ _ _ h => h) (by rfl) (by assumption) ?_
  try simp only [List.setIfInBounds_toArray, List.set_cons_zero, List.set_cons_succ]
  refine takeS (i := 37) 42 rfl rfl (by kernel_rfl) (by kernel_rfl) (by kernel_rfl) (fun _ _ _ h => h) (by rfl) (by assumption) ?_
  try simp only [List.setIfInBounds_toArray, List.set_cons_zero, List.set_cons_succ]
  refine takeS (i := 38) 43 rfl rfl (by kernel_rfl) (by kernel_rfl) (by kernel_rfl) (fun _ _ _ h => h) (by rfl) (by assumption) ?_
  try simp only [List.setIfInBounds_toArray, List.set_cons_zero, List.set_cons_succ]
  refine takeH (i := 39) 44 (.bool false) rfl rfl (by kernel_rfl) (by kernel_rfl) (by kernel_rfl) (fun _ _ _ h => h) (by rfl) ?_ (by assumption) ?_
  · intro V hV; clear hV; go_simp; try rfl
  try simp only [List.setIfInBounds_toArray, List.set_cons_zero, List.set_cons_succ]
  refine takeH (i := 40) 4 (.bool false) rfl rfl (by kernel_rfl) (by kernel_rfl) (by kernel_rfl) (fun _ _ _ h => h) (by rfl) ?_ (by assumption) ?_
  · intro V hV; clear hV; go_simp; try rfl
  try simp only [List.setIfInBounds_toArray, List.set_cons_zero, List.set_cons_succ]
  refine wpAnyH_done (by kernel_rfl) ?_ _
  have HE := Lib.hid hHeld
  go_wp2
  go_ret
  exact ⟨rfl, B1.out.trans (belowLe (by have := B1.out.size; exact this) HE.out.2.2)⟩

set_option maxRecDepth 100000 in
set_option maxHeartbeats 4000000 in
theorem same5_any (a b : Ob) (f l c p i f' l' c' p' i' : Sl) (hs : a.fins.length ≤ 1000000 ∧ a.labels.length ≤ 1000000 ∧ a.cidrs.length ≤ 1000000 ∧ a.fams.length ≤ 1000000 ∧ a.ips.length ≤ 1000000) (w : World) (hr : RowsR w a f l c p i) (hq : RowsR w b f' l' c' p' i')
    (h0 : flatB a b = true) (h1 : decide (a.fins = b.fins) = true) (h2 : decide (a.labels = b.labels) = true) (h3 : decide (a.cidrs = b.cidrs) = true) (h4 : decide (a.fams = b.fams) = true) (h5 : decide (a.ips = b.ips) = false) :
    Calls Try.prog 49 #[.agg (oc a f l c p i), .agg (oc b f' l' c' p' i')] w fun e w' => e = .returned (.bool false) ∧ Below w.heap.size w w' := by
  obtain ⟨w1, hw1⟩ : ∃ w1, w1 = (w.alloc (.cells (oc a f l c p i) 32)).alloc (.cells (oc b f' l' c' p' i') 32) := ⟨_, rfl⟩
  have b1 : Below w.heap.size w w1 := by rw [hw1]; exact G.bthen (bel_alloc _ _) (bel_alloc _ _)
  have p1 : w1.heap[w.heap.size]? = some (.cells (oc a f l c p i) 32 (0, 0)) := by
    rw [hw1]; exact ((bel_alloc _ _).block _ (by simp)).trans (G.heap_new _ _)
  have q1 : w1.heap[w.heap.size + 1]? = some (.cells (oc b f' l' c' p' i') 32 (0, 0)) := by
    rw [hw1]
    have h2 := G.heap_new (w.alloc (.cells (oc a f l c p i) 32)) (.cells (oc b f' l' c' p' i') 32)
    rw [show (w.alloc (.cells (oc a f l c p i) 32)).heap.size = w.heap.size + 1 by simp] at h2
    exact h2
  obtain ⟨x, hx⟩ : ∃ x, x = w.heap.size := ⟨_, rfl⟩
  obtain ⟨y, hy⟩ : ∃ y, y = w.heap.size + 1 := ⟨_, rfl⟩
  have heq := run_eq_flat a b true h0
  have ka0 : ∀ V : World, V.heap[x]? = some (.cells (oc a f l c p i) 32 (0, 0)) → V.cell? ⟨x, 0, none⟩ = some (.int .i64 a.kind) := fun V hV => by simp [World.cell?, hV, oc]
  have kb0 : ∀ V : World, V.heap[y]? = some (.cells (oc b f' l' c' p' i') 32 (0, 0)) → V.cell? ⟨y, 0, none⟩ = some (.int .i64 b.kind) := fun V hV => by simp [World.cell?, hV, oc]
  have ka1 : ∀ V : World, V.heap[x]? = some (.cells (oc a f l c p i) 32 (0, 0)) → V.cell? ⟨x, 1, none⟩ = some (.string a.name) := fun V hV => by simp [World.cell?, hV, oc]
  have kb1 : ∀ V : World, V.heap[y]? = some (.cells (oc b f' l' c' p' i') 32 (0, 0)) → V.cell? ⟨y, 1, none⟩ = some (.string b.name) := fun V hV => by simp [World.cell?, hV, oc]
  have ka2 : ∀ V : World, V.heap[x]? = some (.cells (oc a f l c p i) 32 (0, 0)) → V.cell? ⟨x, 2, none⟩ = some (.int .i64 a.uid) := fun V hV => by simp [World.cell?, hV, oc]
  have kb2 : ∀ V : World, V.heap[y]? = some (.cells (oc b f' l' c' p' i') 32 (0, 0)) → V.cell? ⟨y, 2, none⟩ = some (.int .i64 b.uid) := fun V hV => by simp [World.cell?, hV, oc]
  have ka3 : ∀ V : World, V.heap[x]? = some (.cells (oc a f l c p i) 32 (0, 0)) → V.cell? ⟨x, 3, none⟩ = some (.int .i64 a.version) := fun V hV => by simp [World.cell?, hV, oc]
  have kb3 : ∀ V : World, V.heap[y]? = some (.cells (oc b f' l' c' p' i') 32 (0, 0)) → V.cell? ⟨y, 3, none⟩ = some (.int .i64 b.version) := fun V hV => by simp [World.cell?, hV, oc]
  have ka4 : ∀ V : World, V.heap[x]? = some (.cells (oc a f l c p i) 32 (0, 0)) → V.cell? ⟨x, 4, none⟩ = some (.bool a.deleting) := fun V hV => by simp [World.cell?, hV, oc]
  have kb4 : ∀ V : World, V.heap[y]? = some (.cells (oc b f' l' c' p' i') 32 (0, 0)) → V.cell? ⟨y, 4, none⟩ = some (.bool b.deleting) := fun V hV => by simp [World.cell?, hV, oc]
  have ka5 : ∀ V : World, V.heap[x]? = some (.cells (oc a f l c p i) 32 (0, 0)) → V.cell? ⟨x, 5, none⟩ = some (.slice f.A a.fins.length f.c) := fun V hV => by simp [World.cell?, hV, oc]
  have kb5 : ∀ V : World, V.heap[y]? = some (.cells (oc b f' l' c' p' i') 32 (0, 0)) → V.cell? ⟨y, 5, none⟩ = some (.slice f'.A b.fins.length f'.c) := fun V hV => by simp [World.cell?, hV, oc]
  have ka6 : ∀ V : World, V.heap[x]? = some (.cells (oc a f l c p i) 32 (0, 0)) → V.cell? ⟨x, 6, none⟩ = some (.slice l.A a.labels.length l.c) := fun V hV => by simp [World.cell?, hV, oc]
  have kb6 : ∀ V : World, V.heap[y]? = some (.cells (oc b f' l' c' p' i') 32 (0, 0)) → V.cell? ⟨y, 6, none⟩ = some (.slice l'.A b.labels.length l'.c) := fun V hV => by simp [World.cell?, hV, oc]
  have ka7 : ∀ V : World, V.heap[x]? = some (.cells (oc a f l c p i) 32 (0, 0)) → V.cell? ⟨x, 7, none⟩ = some (.slice c.A a.cidrs.length c.c) := fun V hV => by simp [World.cell?, hV, oc]
  have kb7 : ∀ V : World, V.heap[y]? = some (.cells (oc b f' l' c' p' i') 32 (0, 0)) → V.cell? ⟨y, 7, none⟩ = some (.slice c'.A b.cidrs.length c'.c) := fun V hV => by simp [World.cell?, hV, oc]
  have ka8 : ∀ V : World, V.heap[x]? = some (.cells (oc a f l c p i) 32 (0, 0)) → V.cell? ⟨x, 8, none⟩ = some (.string a.status) := fun V hV => by simp [World.cell?, hV, oc]
  have kb8 : ∀ V : World, V.heap[y]? = some (.cells (oc b f' l' c' p' i') 32 (0, 0)) → V.cell? ⟨y, 8, none⟩ = some (.string b.status) := fun V hV => by simp [World.cell?, hV, oc]
  have ka9 : ∀ V : World, V.heap[x]? = some (.cells (oc a f l c p i) 32 (0, 0)) → V.cell? ⟨x, 9, none⟩ = some (.int .i64 a.type) := fun V hV => by simp [World.cell?, hV, oc]
  have kb9 : ∀ V : World, V.heap[y]? = some (.cells (oc b f' l' c' p' i') 32 (0, 0)) → V.cell? ⟨y, 9, none⟩ = some (.int .i64 b.type) := fun V hV => by simp [World.cell?, hV, oc]
  have ka10 : ∀ V : World, V.heap[x]? = some (.cells (oc a f l c p i) 32 (0, 0)) → V.cell? ⟨x, 10, none⟩ = some (.int .i64 a.policy) := fun V hV => by simp [World.cell?, hV, oc]
  have kb10 : ∀ V : World, V.heap[y]? = some (.cells (oc b f' l' c' p' i') 32 (0, 0)) → V.cell? ⟨y, 10, none⟩ = some (.int .i64 b.policy) := fun V hV => by simp [World.cell?, hV, oc]
  have ka11 : ∀ V : World, V.heap[x]? = some (.cells (oc a f l c p i) 32 (0, 0)) → V.cell? ⟨x, 11, none⟩ = some (.slice p.A a.fams.length p.c) := fun V hV => by simp [World.cell?, hV, oc]
  have kb11 : ∀ V : World, V.heap[y]? = some (.cells (oc b f' l' c' p' i') 32 (0, 0)) → V.cell? ⟨y, 11, none⟩ = some (.slice p'.A b.fams.length p'.c) := fun V hV => by simp [World.cell?, hV, oc]
  have ka12 : ∀ V : World, V.heap[x]? = some (.cells (oc a f l c p i) 32 (0, 0)) → V.cell? ⟨x, 12, none⟩ = some (.slice i.A a.ips.length i.c) := fun V hV => by simp [World.cell?, hV, oc]
  have kb12 : ∀ V : World, V.heap[y]? = some (.cells (oc b f' l' c' p' i') 32 (0, 0)) → V.cell? ⟨y, 12, none⟩ = some (.slice i'.A b.ips.length i'.c) := fun V hV => by simp [World.cell?, hV, oc]
  have ka13 : ∀ V : World, V.heap[x]? = some (.cells (oc a f l c p i) 32 (0, 0)) → V.cell? ⟨x, 13, none⟩ = some (.string a.v4) := fun V hV => by simp [World.cell?, hV, oc]
  have kb13 : ∀ V : World, V.heap[y]? = some (.cells (oc b f' l' c' p' i') 32 (0, 0)) → V.cell? ⟨y, 13, none⟩ = some (.string b.v4) := fun V hV => by simp [World.cell?, hV, oc]
  have ka14 : ∀ V : World, V.heap[x]? = some (.cells (oc a f l c p i) 32 (0, 0)) → V.cell? ⟨x, 14, none⟩ = some (.string a.v6) := fun V hV => by simp [World.cell?, hV, oc]
  have kb14 : ∀ V : World, V.heap[y]? = some (.cells (oc b f' l' c' p' i') 32 (0, 0)) → V.cell? ⟨y, 14, none⟩ = some (.string b.v6) := fun V hV => by simp [World.cell?, hV, oc]
  have ka15 : ∀ V : World, V.heap[x]? = some (.cells (oc a f l c p i) 32 (0, 0)) → V.cell? ⟨x, 15, none⟩ = some (.int .i64 a.bits) := fun V hV => by simp [World.cell?, hV, oc]
  have kb15 : ∀ V : World, V.heap[y]? = some (.cells (oc b f' l' c' p' i') 32 (0, 0)) → V.cell? ⟨y, 15, none⟩ = some (.int .i64 b.bits) := fun V hV => by simp [World.cell?, hV, oc]
  have ka16 : ∀ V : World, V.heap[x]? = some (.cells (oc a f l c p i) 32 (0, 0)) → V.cell? ⟨x, 16, none⟩ = some (.string a.sel) := fun V hV => by simp [World.cell?, hV, oc]
  have kb16 : ∀ V : World, V.heap[y]? = some (.cells (oc b f' l' c' p' i') 32 (0, 0)) → V.cell? ⟨y, 16, none⟩ = some (.string b.sel) := fun V hV => by simp [World.cell?, hV, oc]
  have ka17 : ∀ V : World, V.heap[x]? = some (.cells (oc a f l c p i) 32 (0, 0)) → V.cell? ⟨x, 17, none⟩ = some (.string a.about) := fun V hV => by simp [World.cell?, hV, oc]
  have kb17 : ∀ V : World, V.heap[y]? = some (.cells (oc b f' l' c' p' i') 32 (0, 0)) → V.cell? ⟨y, 17, none⟩ = some (.string b.about) := fun V hV => by simp [World.cell?, hV, oc]
  have ka18 : ∀ V : World, V.heap[x]? = some (.cells (oc a f l c p i) 32 (0, 0)) → V.cell? ⟨x, 18, none⟩ = some (.string a.reason) := fun V hV => by simp [World.cell?, hV, oc]
  have kb18 : ∀ V : World, V.heap[y]? = some (.cells (oc b f' l' c' p' i') 32 (0, 0)) → V.cell? ⟨y, 18, none⟩ = some (.string b.reason) := fun V hV => by simp [World.cell?, hV, oc]
  have hc0 : ∀ V, Below w1.heap.size w1 V → Calls Try.prog 85 #[.slice f.A a.fins.length f.c, .slice f'.A b.fins.length f'.c] V fun e w' => e = .returned (.bool true) ∧ Below V.heap.size V w' := fun V hV => by rw [← h1]; exact eqstr_any a.fins b.fins f.A f'.A f.c f'.c hs.1 V ((hr.fr.below b1).below hV) ((hq.fr.below b1).below hV)
  have HC0 := Lib.hid hc0
  have hc1 : ∀ V, Below w1.heap.size w1 V → Calls Try.prog 86 #[.slice l.A a.labels.length l.c, .slice l'.A b.labels.length l'.c] V fun e w' => e = .returned (.bool true) ∧ Below V.heap.size V w' := fun V hV => by rw [← h2]; exact eqpair_any a.labels b.labels l.A l'.A l.c l'.c hs.2.1 V ((hr.lr.below b1).below hV) ((hq.lr.below b1).below hV)
  have HC1 := Lib.hid hc1
  have hc2 : ∀ V, Below w1.heap.size w1 V → Calls Try.prog 85 #[.slice c.A a.cidrs.length c.c, .slice c'.A b.cidrs.length c'.c] V fun e w' => e = .returned (.bool true) ∧ Below V.heap.size V w' := fun V hV => by rw [← h3]; exact eqstr_any a.cidrs b.cidrs c.A c'.A c.c c'.c hs.2.2.1 V ((hr.cr.below b1).below hV) ((hq.cr.below b1).below hV)
  have HC2 := Lib.hid hc2
  have hc3 : ∀ V, Below w1.heap.size w1 V → Calls Try.prog 87 #[.slice p.A a.fams.length p.c, .slice p'.A b.fams.length p'.c] V fun e w' => e = .returned (.bool true) ∧ Below V.heap.size V w' := fun V hV => by rw [← h4]; exact eqint_any a.fams b.fams p.A p'.A p.c p'.c hs.2.2.2.1 V ((hr.pr.below b1).below hV) ((hq.pr.below b1).below hV)
  have HC3 := Lib.hid hc3
  have hc4 : ∀ V, Below w1.heap.size w1 V → Calls Try.prog 85 #[.slice i.A a.ips.length i.c, .slice i'.A b.ips.length i'.c] V fun e w' => e = .returned (.bool false) ∧ Below V.heap.size V w' := fun V hV => by rw [← h5]; exact eqstr_any a.ips b.ips i.A i'.A i.c i'.c hs.2.2.2.2 V ((hr.ir.below b1).below hV) ((hq.ir.below b1).below hV)
  have HC4 := Lib.hid hc4
  have HW := Lib.hid hw1
  have B1 := Lib.hid b1
  have lw : Hid (x < w1.heap.size ∧ y < w1.heap.size) := Lib.hid ⟨by rw [hx]; exact (Array.getElem?_eq_some_iff.1 p1).1, by rw [hy]; exact (Array.getElem?_eq_some_iff.1 q1).1⟩
  rw [← hx] at p1
  rw [← hy] at q1
  have P1 := Lib.hid p1
  have Q1 := Lib.hid q1
  clear b1 p1 q1 hw1 hr hq hs h0 hc0 h1 hc1 h2 hc2 h3 hc3 h4 hc4 h5
  go_enter Try.func49, Try.ntmps49
  go_upto_region 1 with (fail)
  rw [← HW.out, ← hy, ← hx]
  clear hx hy
  refine wp_region_held_drew (S := fun V => V.heap[x]? = some (.cells (oc a f l c p i) 32 (0, 0)) ∧ V.heap[y]? = some (.cells (oc b f' l' c' p' i') 32 (0, 0)) ∧ Below w1.heap.size w1 V) (by kernel_rfl) ⟨P1.out, Q1.out, ⟨rfl, rfl, rfl, Nat.le_refl _, fun _ _ => rfl⟩⟩ (fun hS0 => ?_)
  refine takeH (i := 0) 5 (.agg (oc a f l c p i)) rfl rfl (by kernel_rfl) (by kernel_rfl) (by kernel_rfl) (fun _ _ _ h => h) (by rfl) ?_ (by assumption) ?_
  · exact load_row_yields 32 (.tmp 2) rfl x rfl 32 (oc a f l c p i) (0, 0) _ (fun V hV => hV.1) Try.underlying32 rfl size32
  try simp only [List.setIfInBounds_toArray, List.set_cons_zero, List.set_cons_succ]
  refine takeH (i := 2) 7 ((Value.agg (oc b f' l' c' p' i'))) rfl rfl (by kernel_rfl) (by kernel_rfl) (by kernel_rfl) (fun _ _ _ h => h) (by rfl) ?_ (by assumption) ?_
  · exact load_row_yields 32 (.tmp 3) rfl y rfl 32 (oc b f' l' c' p' i') (0, 0) _ (fun V hV => hV.2.1) Try.underlying32 rfl size32
  try simp only [List.setIfInBounds_toArray, List.set_cons_zero, List.set_cons_succ]
  refine wpAnyH_ready (rs := [1]) (by kernel_rfl) (by simp) ?_
  refine AllReadyH.cons rfl (fun K hK => ?_) AllReadyH.nil
  rw [if_pos (by rfl)]
  go_simp
  go_at_call 84
  refine (flatten_any a f l c p i _).mono ?_
  rintro e wf ⟨rfl, hb1⟩
  dsimp only
  refine hK.out _ _ (keepS lw.out (by assumption) hb1) (fun hHeld => ?_)
  clear hK K
  try simp only [Act.put, List.setIfInBounds_toArray, List.set_cons_zero, List.set_cons_succ]
  refine wpAnyH_ready (rs := [3]) (by kernel_rfl) (by simp) ?_
  refine AllReadyH.cons rfl (fun K hK => ?_) AllReadyH.nil
  rw [if_pos (by rfl)]
  go_simp
  go_at_call 84
  refine (flatten_any b f' l' c' p' i' _).mono ?_
  rintro e wg ⟨rfl, hb3⟩
  dsimp only
  refine hK.out _ _ (keepS lw.out (by assumption) hb3) (fun hHeld => ?_)
  clear hK K
  try simp only [Act.put, List.setIfInBounds_toArray, List.set_cons_zero, List.set_cons_succ]
  refine takeH (i := 4) 9 (.bool true) rfl rfl (by kernel_rfl) (by kernel_rfl) (by kernel_rfl) (fun _ _ _ h => h) (by rfl) ?_ (by assumption) ?_
  · intro V hV; clear hV; go_simp; try rfl
  try simp only [List.setIfInBounds_toArray, List.set_cons_zero, List.set_cons_succ]
  refine takeH (i := 5) 10 (.bool true) rfl rfl (by kernel_rfl) (by kernel_rfl) (by kernel_rfl) (fun _ _ _ h => h) (by rfl) ?_ (by assumption) ?_
  · intro V hV; clear hV; go_simp; try rfl
  try simp only [List.setIfInBounds_toArray, List.set_cons_zero, List.set_cons_succ]
  refine takeH (i := 6) 11 (.pointer (some ⟨x, 5, none⟩)) rfl rfl (by kernel_rfl) (by kernel_rfl) (by kernel_rfl) (fun _ _ _ h => h) (by rfl) ?_ (by assumption) ?_
  · intro V hV; clear hV; go_simp; try rfl
  try simp only [List.setIfInBounds_toArray, List.set_cons_zero, List.set_cons_succ]
  refine takeH (i := 7) 12 (.slice f.A a.fins.length f.c) rfl rfl (by kernel_rfl) (by kernel_rfl) (by kernel_rfl) (fun _ _ _ h => h) (by rfl) ?_ (by assumption) ?_
  · intro V hV; have hc := ka5 V hV.1; clear hV; go_simp; try rfl
  try simp only [List.setIfInBounds_toArray, List.set_cons_zero, List.set_cons_succ]
  refine takeH (i := 8) 13 (.pointer (some ⟨y, 5, none⟩)) rfl rfl (by kernel_rfl) (by kernel_rfl) (by kernel_rfl) (fun _ _ _ h => h) (by rfl) ?_ (by assumption) ?_
  · intro V hV; clear hV; go_simp; try rfl
  try simp only [List.setIfInBounds_toArray, List.set_cons_zero, List.set_cons_succ]
  refine takeH (i := 9) 14 (.slice f'.A b.fins.length f'.c) rfl rfl (by kernel_rfl) (by kernel_rfl) (by kernel_rfl) (fun _ _ _ h => h) (by rfl) ?_ (by assumption) ?_
  · intro V hV; have hc := kb5 V hV.2.1; clear hV; go_simp; try rfl
  try simp only [List.setIfInBounds_toArray, List.set_cons_zero, List.set_cons_succ]
  refine wpAnyH_ready (rs := [10]) (by kernel_rfl) (by simp) ?_
  refine AllReadyH.cons rfl (fun K hK => ?_) AllReadyH.nil
  rw [if_pos (by rfl)]
  go_simp
  go_at_call 85
  refine (HC0.out _ (And.right (And.right ‹_ ∧ _›))).mono ?_
  rintro e wq0 ⟨rfl, hb10⟩
  dsimp only
  refine hK.out _ _ (keepS lw.out (by assumption) hb10) (fun hHeld => ?_)
  clear hK K
  try simp only [Act.put, List.setIfInBounds_toArray, List.set_cons_zero, List.set_cons_succ]
  refine takeH (i := 11) 16 (.bool true) rfl rfl (by kernel_rfl) (by kernel_rfl) (by kernel_rfl) (fun _ _ _ h => h) (by rfl) ?_ (by assumption) ?_
  · intro V hV; clear hV; go_simp; try rfl
  try simp only [List.setIfInBounds_toArray, List.set_cons_zero, List.set_cons_succ]
  refine takeH (i := 12) 17 (.bool true) rfl rfl (by kernel_rfl) (by kernel_rfl) (by kernel_rfl) (fun _ _ _ h => h) (by rfl) ?_ (by assumption) ?_
  · intro V hV; clear hV; go_simp; try rfl
  try simp only [List.setIfInBounds_toArray, List.set_cons_zero, List.set_cons_succ]
  refine takeH (i := 13) 18 (.pointer (some ⟨x, 6, none⟩)) rfl rfl (by kernel_rfl) (by kernel_rfl) (by kernel_rfl) (fun _ _ _ h => h) (by rfl) ?_ (by assumption) ?_
  · intro V hV; clear hV; go_simp; try rfl
  try simp only [List.setIfInBounds_toArray, List.set_cons_zero, List.set_cons_succ]
  refine takeH (i := 14) 19 (.slice l.A a.labels.length l.c) rfl rfl (by kernel_rfl) (by kernel_rfl) (by kernel_rfl) (fun _ _ _ h => h) (by rfl) ?_ (by assumption) ?_
  · intro V hV; have hc := ka6 V hV.1; clear hV; go_simp; try rfl
  try simp only [List.setIfInBounds_toArray, List.set_cons_zero, List.set_cons_succ]
  refine takeH (i := 15) 20 (.pointer (some ⟨y, 6, none⟩)) rfl rfl (by kernel_rfl) (by kernel_rfl) (by kernel_rfl) (fun _ _ _ h => h) (by rfl) ?_ (by assumption) ?_
  · intro V hV; clear hV; go_simp; try rfl
  try simp only [List.setIfInBounds_toArray, List.set_cons_zero, List.set_cons_succ]
  refine takeH (i := 16) 21 (.slice l'.A b.labels.length l'.c) rfl rfl (by kernel_rfl) (by kernel_rfl) (by kernel_rfl) (fun _ _ _ h => h) (by rfl) ?_ (by assumption) ?_
  · intro V hV; have hc := kb6 V hV.2.1; clear hV; go_simp; try rfl
  try simp only [List.setIfInBounds_toArray, List.set_cons_zero, List.set_cons_succ]
  refine wpAnyH_ready (rs := [17]) (by kernel_rfl) (by simp) ?_
  refine AllReadyH.cons rfl (fun K hK => ?_) AllReadyH.nil
  rw [if_pos (by rfl)]
  go_simp
  go_at_call 86
  refine (HC1.out _ (And.right (And.right ‹_ ∧ _›))).mono ?_
  rintro e wq1 ⟨rfl, hb17⟩
  dsimp only
  refine hK.out _ _ (keepS lw.out (by assumption) hb17) (fun hHeld => ?_)
  clear hK K
  try simp only [Act.put, List.setIfInBounds_toArray, List.set_cons_zero, List.set_cons_succ]
  refine takeH (i := 18) 23 (.bool true) rfl rfl (by kernel_rfl) (by kernel_rfl) (by kernel_rfl) (fun _ _ _ h => h) (by rfl) ?_ (by assumption) ?_
  · intro V hV; clear hV; go_simp; try rfl
  try simp only [List.setIfInBounds_toArray, List.set_cons_zero, List.set_cons_succ]
  refine takeH (i := 19) 24 (.bool true) rfl rfl (by kernel_rfl) (by kernel_rfl) (by kernel_rfl) (fun _ _ _ h => h) (by rfl) ?_ (by assumption) ?_
  · intro V hV; clear hV; go_simp; try rfl
  try simp only [List.setIfInBounds_toArray, List.set_cons_zero, List.set_cons_succ]
  refine takeH (i := 20) 25 (.pointer (some ⟨x, 7, none⟩)) rfl rfl (by kernel_rfl) (by kernel_rfl) (by kernel_rfl) (fun _ _ _ h => h) (by rfl) ?_ (by assumption) ?_
  · intro V hV; clear hV; go_simp; try rfl
  try simp only [List.setIfInBounds_toArray, List.set_cons_zero, List.set_cons_succ]
  refine takeH (i := 21) 26 (.slice c.A a.cidrs.length c.c) rfl rfl (by kernel_rfl) (by kernel_rfl) (by kernel_rfl) (fun _ _ _ h => h) (by rfl) ?_ (by assumption) ?_
  · intro V hV; have hc := ka7 V hV.1; clear hV; go_simp; try rfl
  try simp only [List.setIfInBounds_toArray, List.set_cons_zero, List.set_cons_succ]
  refine takeH (i := 22) 27 (.pointer (some ⟨y, 7, none⟩)) rfl rfl (by kernel_rfl) (by kernel_rfl) (by kernel_rfl) (fun _ _ _ h => h) (by rfl) ?_ (by assumption) ?_
  · intro V hV; clear hV; go_simp; try rfl
  try simp only [List.setIfInBounds_toArray, List.set_cons_zero, List.set_cons_succ]
  refine takeH (i := 23) 28 (.slice c'.A b.cidrs.length c'.c) rfl rfl (by kernel_rfl) (by kernel_rfl) (by kernel_rfl) (fun _ _ _ h => h) (by rfl) ?_ (by assumption) ?_
  · intro V hV; have hc := kb7 V hV.2.1; clear hV; go_simp; try rfl
  try simp only [List.setIfInBounds_toArray, List.set_cons_zero, List.set_cons_succ]
  refine wpAnyH_ready (rs := [24]) (by kernel_rfl) (by simp) ?_
  refine AllReadyH.cons rfl (fun K hK => ?_) AllReadyH.nil
  rw [if_pos (by rfl)]
  go_simp
  go_at_call 85
  refine (HC2.out _ (And.right (And.right ‹_ ∧ _›))).mono ?_
  rintro e wq2 ⟨rfl, hb24⟩
  dsimp only
  refine hK.out _ _ (keepS lw.out (by assumption) hb24) (fun hHeld => ?_)
  clear hK K
  try simp only [Act.put, List.setIfInBounds_toArray, List.set_cons_zero, List.set_cons_succ]
  refine takeH (i := 25) 30 (.bool true) rfl rfl (by kernel_rfl) (by kernel_rfl) (by kernel_rfl) (fun _ _ _ h => h) (by rfl) ?_ (by assumption) ?_
  · intro V hV; clear hV; go_simp; try rfl
  try simp only [List.setIfInBounds_toArray, List.set_cons_zero, List.set_cons_succ]
  refine takeH (i := 26) 31 (.bool true) rfl rfl (by kernel_rfl) (by kernel_rfl) (by kernel_rfl) (fun _ _ _ h => h) (by rfl) ?_ (by assumption) ?_
  · intro V hV; clear hV; go_simp; try rfl
  try simp only [List.setIfInBounds_toArray, List.set_cons_zero, List.set_cons_succ]
  refine takeH (i := 27) 32 (.pointer (some ⟨x, 11, none⟩)) rfl rfl (by kernel_rfl) (by kernel_rfl) (by kernel_rfl) (fun _ _ _ h => h) (by rfl) ?_ (by assumption) ?_
  · intro V hV; clear hV; go_simp; try rfl
  try simp only [List.setIfInBounds_toArray, List.set_cons_zero, List.set_cons_succ]
  refine takeH (i := 28) 33 (.slice p.A a.fams.length p.c) rfl rfl (by kernel_rfl) (by kernel_rfl) (by kernel_rfl) (fun _ _ _ h => h) (by rfl) ?_ (by assumption) ?_
  · intro V hV; have hc := ka11 V hV.1; clear hV; go_simp; try rfl
  try simp only [List.setIfInBounds_toArray, List.set_cons_zero, List.set_cons_succ]
  refine takeH (i := 29) 34 (.pointer (some ⟨y, 11, none⟩)) rfl rfl (by kernel_rfl) (by kernel_rfl) (by kernel_rfl) (fun _ _ _ h => h) (by rfl) ?_ (by assumption) ?_
  · intro V hV; clear hV; go_simp; try rfl
  try simp only [List.setIfInBounds_toArray, List.set_cons_zero, List.set_cons_succ]
  refine takeH (i := 30) 35 (.slice p'.A b.fams.length p'.c) rfl rfl (by kernel_rfl) (by kernel_rfl) (by kernel_rfl) (fun _ _ _ h => h) (by rfl) ?_ (by assumption) ?_
  · intro V hV; have hc := kb11 V hV.2.1; clear hV; go_simp; try rfl
  try simp only [List.setIfInBounds_toArray, List.set_cons_zero, List.set_cons_succ]
  refine wpAnyH_ready (rs := [31]) (by kernel_rfl) (by simp) ?_
  refine AllReadyH.cons rfl (fun K hK => ?_) AllReadyH.nil
  rw [if_pos (by rfl)]
  go_simp
  go_at_call 87
  refine (HC3.out _ (And.right (And.right ‹_ ∧ _›))).mono ?_
  rintro e wq3 ⟨rfl, hb31⟩
  dsimp only
  refine hK.out _ _ (keepS lw.out (by assumption) hb31) (fun hHeld => ?_)
  clear hK K
  try simp only [Act.put, List.setIfInBounds_toArray, List.set_cons_zero, List.set_cons_succ]
  refine takeH (i := 32) 37 (.bool true) rfl rfl (by kernel_rfl) (by kernel_rfl) (by kernel_rfl) (fun _ _ _ h => h) (by rfl) ?_ (by assumption) ?_
  · intro V hV; clear hV; go_simp; try rfl
  try simp only [List.setIfInBounds_toArray, List.set_cons_zero, List.set_cons_succ]
  refine takeH (i := 33) 38 (.bool true) rfl rfl (by kernel_rfl) (by kernel_rfl) (by kernel_rfl) (fun _ _ _ h => h) (by rfl) ?_ (by assumption) ?_
  · intro V hV; clear hV; go_simp; try rfl
  try simp only [List.setIfInBounds_toArray, List.set_cons_zero, List.set_cons_succ]
  refine takeH (i := 34) 39 (.pointer (some ⟨x, 12, none⟩)) rfl rfl (by kernel_rfl) (by kernel_rfl) (by kernel_rfl) (fun _ _ _ h => h) (by rfl) ?_ (by assumption) ?_
  · intro V hV; clear hV; go_simp; try rfl
  try simp only [List.setIfInBounds_toArray, List.set_cons_zero, List.set_cons_succ]
  refine takeH (i := 35) 40 (.slice i.A a.ips.length i.c) rfl rfl (by kernel_rfl) (by kernel_rfl) (by kernel_rfl) (fun _ _ _ h => h) (by rfl) ?_ (by assumption) ?_
  · intro V hV; have hc := ka12 V hV.1; clear hV; go_simp; try rfl
  try simp only [List.setIfInBounds_toArray, List.set_cons_zero, List.set_cons_succ]
  refine takeH (i := 36) 41 (.pointer (some ⟨y, 12, none⟩)) rfl rfl (by kernel_rfl) (by kernel_rfl) (by kernel_rfl) (fun _ _ _ h => h) (by rfl) ?_ (by assumption) ?_
  · intro V hV; clear hV; go_simp; try rfl
  try simp only [List.setIfInBounds_toArray, List.set_cons_zero, List.set_cons_succ]
  refine takeH (i := 37) 42 (.slice i'.A b.ips.length i'.c) rfl rfl (by kernel_rfl) (by kernel_rfl) (by kernel_rfl) (fun _ _ _ h => h) (by rfl) ?_ (by assumption) ?_
  · intro V hV; have hc := kb12 V hV.2.1; clear hV; go_simp; try rfl
  try simp only [List.setIfInBounds_toArray, List.set_cons_zero, List.set_cons_succ]
  refine wpAnyH_ready (rs := [38]) (by kernel_rfl) (by simp) ?_
  refine AllReadyH.cons rfl (fun K hK => ?_) AllReadyH.nil
  rw [if_pos (by rfl)]
  go_simp
  go_at_call 85
  refine (HC4.out _ (And.right (And.right ‹_ ∧ _›))).mono ?_
  rintro e wq4 ⟨rfl, hb38⟩
  dsimp only
  refine hK.out _ _ (keepS lw.out (by assumption) hb38) (fun hHeld => ?_)
  clear hK K
  try simp only [Act.put, List.setIfInBounds_toArray, List.set_cons_zero, List.set_cons_succ]
  refine takeH (i := 39) 44 (.bool false) rfl rfl (by kernel_rfl) (by kernel_rfl) (by kernel_rfl) (fun _ _ _ h => h) (by rfl) ?_ (by assumption) ?_
  · intro V hV; clear hV; go_simp; try rfl
  try simp only [List.setIfInBounds_toArray, List.set_cons_zero, List.set_cons_succ]
  refine takeH (i := 40) 4 (.bool false) rfl rfl (by kernel_rfl) (by kernel_rfl) (by kernel_rfl) (fun _ _ _ h => h) (by rfl) ?_ (by assumption) ?_
  · intro V hV; clear hV; go_simp; try rfl
  try simp only [List.setIfInBounds_toArray, List.set_cons_zero, List.set_cons_succ]
  refine wpAnyH_done (by kernel_rfl) ?_ _
  have HE := Lib.hid hHeld
  go_wp2
  go_ret
  exact ⟨rfl, B1.out.trans (belowLe (by have := B1.out.size; exact this) HE.out.2.2)⟩

set_option maxRecDepth 100000 in
set_option maxHeartbeats 4000000 in
theorem same6_any (a b : Ob) (f l c p i f' l' c' p' i' : Sl) (hs : a.fins.length ≤ 1000000 ∧ a.labels.length ≤ 1000000 ∧ a.cidrs.length ≤ 1000000 ∧ a.fams.length ≤ 1000000 ∧ a.ips.length ≤ 1000000) (w : World) (hr : RowsR w a f l c p i) (hq : RowsR w b f' l' c' p' i')
    (h0 : flatB a b = true) (h1 : decide (a.fins = b.fins) = true) (h2 : decide (a.labels = b.labels) = true) (h3 : decide (a.cidrs = b.cidrs) = true) (h4 : decide (a.fams = b.fams) = true) (h5 : decide (a.ips = b.ips) = true) :
    Calls Try.prog 49 #[.agg (oc a f l c p i), .agg (oc b f' l' c' p' i')] w fun e w' => e = .returned (.bool true) ∧ Below w.heap.size w w' := by
  obtain ⟨w1, hw1⟩ : ∃ w1, w1 = (w.alloc (.cells (oc a f l c p i) 32)).alloc (.cells (oc b f' l' c' p' i') 32) := ⟨_, rfl⟩
  have b1 : Below w.heap.size w w1 := by rw [hw1]; exact G.bthen (bel_alloc _ _) (bel_alloc _ _)
  have p1 : w1.heap[w.heap.size]? = some (.cells (oc a f l c p i) 32 (0, 0)) := by
    rw [hw1]; exact ((bel_alloc _ _).block _ (by simp)).trans (G.heap_new _ _)
  have q1 : w1.heap[w.heap.size + 1]? = some (.cells (oc b f' l' c' p' i') 32 (0, 0)) := by
    rw [hw1]
    have h2 := G.heap_new (w.alloc (.cells (oc a f l c p i) 32)) (.cells (oc b f' l' c' p' i') 32)
    rw [show (w.alloc (.cells (oc a f l c p i) 32)).heap.size = w.heap.size + 1 by simp] at h2
    exact h2
  obtain ⟨x, hx⟩ : ∃ x, x = w.heap.size := ⟨_, rfl⟩
  obtain ⟨y, hy⟩ : ∃ y, y = w.heap.size + 1 := ⟨_, rfl⟩
  have heq := run_eq_flat a b true h0
  have ka0 : ∀ V : World, V.heap[x]? = some (.cells (oc a f l c p i) 32 (0, 0)) → V.cell? ⟨x, 0, none⟩ = some (.int .i64 a.kind) := fun V hV => by simp [World.cell?, hV, oc]
  have kb0 : ∀ V : World, V.heap[y]? = some (.cells (oc b f' l' c' p' i') 32 (0, 0)) → V.cell? ⟨y, 0, none⟩ = some (.int .i64 b.kind) := fun V hV => by simp [World.cell?, hV, oc]
  have ka1 : ∀ V : World, V.heap[x]? = some (.cells (oc a f l c p i) 32 (0, 0)) → V.cell? ⟨x, 1, none⟩ = some (.string a.name) := fun V hV => by simp [World.cell?, hV, oc]
  have kb1 : ∀ V : World, V.heap[y]? = some (.cells (oc b f' l' c' p' i') 32 (0, 0)) → V.cell? ⟨y, 1, none⟩ = some (.string b.name) := fun V hV => by simp [World.cell?, hV, oc]
  have ka2 : ∀ V : World, V.heap[x]? = some (.cells (oc a f l c p i) 32 (0, 0)) → V.cell? ⟨x, 2, none⟩ = some (.int .i64 a.uid) := fun V hV => by simp [World.cell?, hV, oc]
  have kb2 : ∀ V : World, V.heap[y]? = some (.cells (oc b f' l' c' p' i') 32 (0, 0)) → V.cell? ⟨y, 2, none⟩ = some (.int .i64 b.uid) := fun V hV => by simp [World.cell?, hV, oc]
  have ka3 : ∀ V : World, V.heap[x]? = some (.cells (oc a f l c p i) 32 (0, 0)) → V.cell? ⟨x, 3, none⟩ = some (.int .i64 a.version) := fun V hV => by simp [World.cell?, hV, oc]
  have kb3 : ∀ V : World, V.heap[y]? = some (.cells (oc b f' l' c' p' i') 32 (0, 0)) → V.cell? ⟨y, 3, none⟩ = some (.int .i64 b.version) := fun V hV => by simp [World.cell?, hV, oc]
  have ka4 : ∀ V : World, V.heap[x]? = some (.cells (oc a f l c p i) 32 (0, 0)) → V.cell? ⟨x, 4, none⟩ = some (.bool a.deleting) := fun V hV => by simp [World.cell?, hV, oc]
  have kb4 : ∀ V : World, V.heap[y]? = some (.cells (oc b f' l' c' p' i') 32 (0, 0)) → V.cell? ⟨y, 4, none⟩ = some (.bool b.deleting) := fun V hV => by simp [World.cell?, hV, oc]
  have ka5 : ∀ V : World, V.heap[x]? = some (.cells (oc a f l c p i) 32 (0, 0)) → V.cell? ⟨x, 5, none⟩ = some (.slice f.A a.fins.length f.c) := fun V hV => by simp [World.cell?, hV, oc]
  have kb5 : ∀ V : World, V.heap[y]? = some (.cells (oc b f' l' c' p' i') 32 (0, 0)) → V.cell? ⟨y, 5, none⟩ = some (.slice f'.A b.fins.length f'.c) := fun V hV => by simp [World.cell?, hV, oc]
  have ka6 : ∀ V : World, V.heap[x]? = some (.cells (oc a f l c p i) 32 (0, 0)) → V.cell? ⟨x, 6, none⟩ = some (.slice l.A a.labels.length l.c) := fun V hV => by simp [World.cell?, hV, oc]
  have kb6 : ∀ V : World, V.heap[y]? = some (.cells (oc b f' l' c' p' i') 32 (0, 0)) → V.cell? ⟨y, 6, none⟩ = some (.slice l'.A b.labels.length l'.c) := fun V hV => by simp [World.cell?, hV, oc]
  have ka7 : ∀ V : World, V.heap[x]? = some (.cells (oc a f l c p i) 32 (0, 0)) → V.cell? ⟨x, 7, none⟩ = some (.slice c.A a.cidrs.length c.c) := fun V hV => by simp [World.cell?, hV, oc]
  have kb7 : ∀ V : World, V.heap[y]? = some (.cells (oc b f' l' c' p' i') 32 (0, 0)) → V.cell? ⟨y, 7, none⟩ = some (.slice c'.A b.cidrs.length c'.c) := fun V hV => by simp [World.cell?, hV, oc]
  have ka8 : ∀ V : World, V.heap[x]? = some (.cells (oc a f l c p i) 32 (0, 0)) → V.cell? ⟨x, 8, none⟩ = some (.string a.status) := fun V hV => by simp [World.cell?, hV, oc]
  have kb8 : ∀ V : World, V.heap[y]? = some (.cells (oc b f' l' c' p' i') 32 (0, 0)) → V.cell? ⟨y, 8, none⟩ = some (.string b.status) := fun V hV => by simp [World.cell?, hV, oc]
  have ka9 : ∀ V : World, V.heap[x]? = some (.cells (oc a f l c p i) 32 (0, 0)) → V.cell? ⟨x, 9, none⟩ = some (.int .i64 a.type) := fun V hV => by simp [World.cell?, hV, oc]
  have kb9 : ∀ V : World, V.heap[y]? = some (.cells (oc b f' l' c' p' i') 32 (0, 0)) → V.cell? ⟨y, 9, none⟩ = some (.int .i64 b.type) := fun V hV => by simp [World.cell?, hV, oc]
  have ka10 : ∀ V : World, V.heap[x]? = some (.cells (oc a f l c p i) 32 (0, 0)) → V.cell? ⟨x, 10, none⟩ = some (.int .i64 a.policy) := fun V hV => by simp [World.cell?, hV, oc]
  have kb10 : ∀ V : World, V.heap[y]? = some (.cells (oc b f' l' c' p' i') 32 (0, 0)) → V.cell? ⟨y, 10, none⟩ = some (.int .i64 b.policy) := fun V hV => by simp [World.cell?, hV, oc]
  have ka11 : ∀ V : World, V.heap[x]? = some (.cells (oc a f l c p i) 32 (0, 0)) → V.cell? ⟨x, 11, none⟩ = some (.slice p.A a.fams.length p.c) := fun V hV => by simp [World.cell?, hV, oc]
  have kb11 : ∀ V : World, V.heap[y]? = some (.cells (oc b f' l' c' p' i') 32 (0, 0)) → V.cell? ⟨y, 11, none⟩ = some (.slice p'.A b.fams.length p'.c) := fun V hV => by simp [World.cell?, hV, oc]
  have ka12 : ∀ V : World, V.heap[x]? = some (.cells (oc a f l c p i) 32 (0, 0)) → V.cell? ⟨x, 12, none⟩ = some (.slice i.A a.ips.length i.c) := fun V hV => by simp [World.cell?, hV, oc]
  have kb12 : ∀ V : World, V.heap[y]? = some (.cells (oc b f' l' c' p' i') 32 (0, 0)) → V.cell? ⟨y, 12, none⟩ = some (.slice i'.A b.ips.length i'.c) := fun V hV => by simp [World.cell?, hV, oc]
  have ka13 : ∀ V : World, V.heap[x]? = some (.cells (oc a f l c p i) 32 (0, 0)) → V.cell? ⟨x, 13, none⟩ = some (.string a.v4) := fun V hV => by simp [World.cell?, hV, oc]
  have kb13 : ∀ V : World, V.heap[y]? = some (.cells (oc b f' l' c' p' i') 32 (0, 0)) → V.cell? ⟨y, 13, none⟩ = some (.string b.v4) := fun V hV => by simp [World.cell?, hV, oc]
  have ka14 : ∀ V : World, V.heap[x]? = some (.cells (oc a f l c p i) 32 (0, 0)) → V.cell? ⟨x, 14, none⟩ = some (.string a.v6) := fun V hV => by simp [World.cell?, hV, oc]
  have kb14 : ∀ V : World, V.heap[y]? = some (.cells (oc b f' l' c' p' i') 32 (0, 0)) → V.cell? ⟨y, 14, none⟩ = some (.string b.v6) := fun V hV => by simp [World.cell?, hV, oc]
  have ka15 : ∀ V : World, V.heap[x]? = some (.cells (oc a f l c p i) 32 (0, 0)) → V.cell? ⟨x, 15, none⟩ = some (.int .i64 a.bits) := fun V hV => by simp [World.cell?, hV, oc]
  have kb15 : ∀ V : World, V.heap[y]? = some (.cells (oc b f' l' c' p' i') 32 (0, 0)) → V.cell? ⟨y, 15, none⟩ = some (.int .i64 b.bits) := fun V hV => by simp [World.cell?, hV, oc]
  have ka16 : ∀ V : World, V.heap[x]? = some (.cells (oc a f l c p i) 32 (0, 0)) → V.cell? ⟨x, 16, none⟩ = some (.string a.sel) := fun V hV => by simp [World.cell?, hV, oc]
  have kb16 : ∀ V : World, V.heap[y]? = some (.cells (oc b f' l' c' p' i') 32 (0, 0)) → V.cell? ⟨y, 16, none⟩ = some (.string b.sel) := fun V hV => by simp [World.cell?, hV, oc]
  have ka17 : ∀ V : World, V.heap[x]? = some (.cells (oc a f l c p i) 32 (0, 0)) → V.cell? ⟨x, 17, none⟩ = some (.string a.about) := fun V hV => by simp [World.cell?, hV, oc]
  have kb17 : ∀ V : World, V.heap[y]? = some (.cells (oc b f' l' c' p' i') 32 (0, 0)) → V.cell? ⟨y, 17, none⟩ = some (.string b.about) := fun V hV => by simp [World.cell?, hV, oc]
  have ka18 : ∀ V : World, V.heap[x]? = some (.cells (oc a f l c p i) 32 (0, 0)) → V.cell? ⟨x, 18, none⟩ = some (.string a.reason) := fun V hV => by simp [World.cell?, hV, oc]
  have kb18 : ∀ V : World, V.heap[y]? = some (.cells (oc b f' l' c' p' i') 32 (0, 0)) → V.cell? ⟨y, 18, none⟩ = some (.string b.reason) := fun V hV => by simp [World.cell?, hV, oc]
  have hc0 : ∀ V, Below w1.heap.size w1 V → Calls Try.prog 85 #[.slice f.A a.fins.length f.c, .slice f'.A b.fins.length f'.c] V fun e w' => e = .returned (.bool true) ∧ Below V.heap.size V w' := fun V hV => by rw [← h1]; exact eqstr_any a.fins b.fins f.A f'.A f.c f'.c hs.1 V ((hr.fr.below b1).below hV) ((hq.fr.below b1).below hV)
  have HC0 := Lib.hid hc0
  have hc1 : ∀ V, Below w1.heap.size w1 V → Calls Try.prog 86 #[.slice l.A a.labels.length l.c, .slice l'.A b.labels.length l'.c] V fun e w' => e = .returned (.bool true) ∧ Below V.heap.size V w' := fun V hV => by rw [← h2]; exact eqpair_any a.labels b.labels l.A l'.A l.c l'.c hs.2.1 V ((hr.lr.below b1).below hV) ((hq.lr.below b1).below hV)
  have HC1 := Lib.hid hc1
  have hc2 : ∀ V, Below w1.heap.size w1 V → Calls Try.prog 85 #[.slice c.A a.cidrs.length c.c, .slice c'.A b.cidrs.length c'.c] V fun e w' => e = .returned (.bool true) ∧ Below V.heap.size V w' := fun V hV => by rw [← h3]; exact eqstr_any a.cidrs b.cidrs c.A c'.A c.c c'.c hs.2.2.1 V ((hr.cr.below b1).below hV) ((hq.cr.below b1).below hV)
  have HC2 := Lib.hid hc2
  have hc3 : ∀ V, Below w1.heap.size w1 V → Calls Try.prog 87 #[.slice p.A a.fams.length p.c, .slice p'.A b.fams.length p'.c] V fun e w' => e = .returned (.bool true) ∧ Below V.heap.size V w' := fun V hV => by rw [← h4]; exact eqint_any a.fams b.fams p.A p'.A p.c p'.c hs.2.2.2.1 V ((hr.pr.below b1).below hV) ((hq.pr.below b1).below hV)
  have HC3 := Lib.hid hc3
  have hc4 : ∀ V, Below w1.heap.size w1 V → Calls Try.prog 85 #[.slice i.A a.ips.length i.c, .slice i'.A b.ips.length i'.c] V fun e w' => e = .returned (.bool true) ∧ Below V.heap.size V w' := fun V hV => by rw [← h5]; exact eqstr_any a.ips b.ips i.A i'.A i.c i'.c hs.2.2.2.2 V ((hr.ir.below b1).below hV) ((hq.ir.below b1).below hV)
  have HC4 := Lib.hid hc4
  have HW := Lib.hid hw1
  have B1 := Lib.hid b1
  have lw : Hid (x < w1.heap.size ∧ y < w1.heap.size) := Lib.hid ⟨by rw [hx]; exact (Array.getElem?_eq_some_iff.1 p1).1, by rw [hy]; exact (Array.getElem?_eq_some_iff.1 q1).1⟩
  rw [← hx] at p1
  rw [← hy] at q1
  have P1 := Lib.hid p1
  have Q1 := Lib.hid q1
  clear b1 p1 q1 hw1 hr hq hs h0 hc0 h1 hc1 h2 hc2 h3 hc3 h4 hc4 h5
  go_enter Try.func49, Try.ntmps49
  go_upto_region 1 with (fail)
  rw [← HW.out, ← hy, ← hx]
  clear hx hy
  refine wp_region_held_drew (S := fun V => V.heap[x]? = some (.cells (oc a f l c p i) 32 (0, 0)) ∧ V.heap[y]? = some (.cells (oc b f' l' c' p' i') 32 (0, 0)) ∧ Below w1.heap.size w1 V) (by kernel_rfl) ⟨P1.out, Q1.out, ⟨rfl, rfl, rfl, Nat.le_refl _, fun _ _ => rfl⟩⟩ (fun hS0 => ?_)
  refine takeH (i := 0) 5 (.agg (oc a f l c p i)) rfl rfl (by kernel_rfl) (by kernel_rfl) (by kernel_rfl) (fun _ _ _ h => h) (by rfl) ?_ (by assumption) ?_
  · exact load_row_yields 32 (.tmp 2) rfl x rfl 32 (oc a f l c p i) (0, 0) _ (fun V hV => hV.1) Try.underlying32 rfl size32
  try simp only [List.setIfInBounds_toArray, List.set_cons_zero, List.set_cons_succ]
  refine takeH (i := 2) 7 ((Value.agg (oc b f' l' c' p' i'))) rfl rfl (by kernel_rfl) (by kernel_rfl) (by kernel_rfl) (fun _ _ _ h => h) (by rfl) ?_ (by assumption) ?_
  · exact load_row_yields 32 (.tmp 3) rfl y rfl 32 (oc b f' l' c' p' i') (0, 0) _ (fun V hV => hV.2.1) Try.underlying32 rfl size32
  try simp only [List.setIfInBounds_toArray, List.set_cons_zero, List.set_cons_succ]
  refine wpAnyH_ready (rs := [1]) (by kernel_rfl) (by simp) ?_
  refine AllReadyH.cons rfl (fun K hK => ?_) AllReadyH.nil
  rw [if_pos (by rfl)]
  go_simp
  go_at_call 84
  refine (flatten_any a f l c p i _).mono ?_
  rintro e wf ⟨rfl, hb1⟩
  dsimp only
  refine hK.out _ _ (keepS lw.out (by assumption) hb1) (fun hHeld => ?_)
  clear hK K
  try simp only [Act.put, List.setIfInBounds_toArray, List.set_cons_zero, List.set_cons_succ]
  refine wpAnyH_ready (rs := [3]) (by kernel_rfl) (by simp) ?_
  refine AllReadyH.cons rfl (fun K hK => ?_) AllReadyH.nil
  rw [if_pos (by rfl)]
  go_simp
  go_at_call 84
  refine (flatten_any b f' l' c' p' i' _).mono ?_
  rintro e wg ⟨rfl, hb3⟩
  dsimp only
  refine hK.out _ _ (keepS lw.out (by assumption) hb3) (fun hHeld => ?_)
  clear hK K
  try simp only [Act.put, List.setIfInBounds_toArray, List.set_cons_zero, List.set_cons_succ]
  refine takeH (i := 4) 9 (.bool true) rfl rfl (by kernel_rfl) (by kernel_rfl) (by kernel_rfl) (fun _ _ _ h => h) (by rfl) ?_ (by assumption) ?_
  · intro V hV; clear hV; go_simp; try rfl
  try simp only [List.setIfInBounds_toArray, List.set_cons_zero, List.set_cons_succ]
  refine takeH (i := 5) 10 (.bool true) rfl rfl (by kernel_rfl) (by kernel_rfl) (by kernel_rfl) (fun _ _ _ h => h) (by rfl) ?_ (by assumption) ?_
  · intro V hV; clear hV; go_simp; try rfl
  try simp only [List.setIfInBounds_toArray, List.set_cons_zero, List.set_cons_succ]
  refine takeH (i := 6) 11 (.pointer (some ⟨x, 5, none⟩)) rfl rfl (by kernel_rfl) (by kernel_rfl) (by kernel_rfl) (fun _ _ _ h => h) (by rfl) ?_ (by assumption) ?_
  · intro V hV; clear hV; go_simp; try rfl
  try simp only [List.setIfInBounds_toArray, List.set_cons_zero, List.set_cons_succ]
  refine takeH (i := 7) 12 (.slice f.A a.fins.length f.c) rfl rfl (by kernel_rfl) (by kernel_rfl) (by kernel_rfl) (fun _ _ _ h => h) (by rfl) ?_ (by assumption) ?_
  · intro V hV; have hc := ka5 V hV.1; clear hV; go_simp; try rfl
  try simp only [List.setIfInBounds_toArray, List.set_cons_zero, List.set_cons_succ]
  refine takeH (i := 8) 13 (.pointer (some ⟨y, 5, none⟩)) rfl rfl (by kernel_rfl) (by kernel_rfl) (by kernel_rfl) (fun _ _ _ h => h) (by rfl) ?_ (by assumption) ?_
  · intro V hV; clear hV; go_simp; try rfl
  try simp only [List.setIfInBounds_toArray, List.set_cons_zero, List.set_cons_succ]
  refine takeH (i := 9) 14 (.slice f'.A b.fins.length f'.c) rfl rfl (by kernel_rfl) (by kernel_rfl) (by kernel_rfl) (fun _ _ _ h => h) (by rfl) ?_ (by assumption) ?_
  · intro V hV; have hc := kb5 V hV.2.1; clear hV; go_simp; try rfl
  try simp only [List.setIfInBounds_toArray, List.set_cons_zero, List.set_cons_succ]
  refine wpAnyH_ready (rs := [10]) (by kernel_rfl) (by simp) ?_
  refine AllReadyH.cons rfl (fun K hK => ?_) AllReadyH.nil
  rw [if_pos (by rfl)]
  go_simp
  go_at_call 85
  refine (HC0.out _ (And.right (And.right ‹_ ∧ _›))).mono ?_
  rintro e wq0 ⟨rfl, hb10⟩
  dsimp only
  refine hK.out _ _ (keepS lw.out (by assumption) hb10) (fun hHeld => ?_)
  clear hK K
  try simp only [Act.put, List.setIfInBounds_toArray, List.set_cons_zero, List.set_cons_succ]
  refine takeH (i := 11) 16 (.bool true) rfl rfl (by kernel_rfl) (by kernel_rfl) (by kernel_rfl) (fun _ _ _ h => h) (by rfl) ?_ (by assumption) ?_
  · intro V hV; clear hV; go_simp; try rfl
  try simp only [List.setIfInBounds_toArray, List.set_cons_zero, List.set_cons_succ]
  refine takeH (i := 12) 17 (.bool true) rfl rfl (by kernel_rfl) (by kernel_rfl) (by kernel_rfl) (fun _ _ _ h => h) (by rfl) ?_ (by assumption) ?_
  · intro V hV; clear hV; go_simp; try rfl
  try simp only [List.setIfInBounds_toArray, List.set_cons_zero, List.set_cons_succ]
  refine takeH (i := 13) 18 (.pointer (some ⟨x, 6, none⟩)) rfl rfl (by kernel_rfl) (by kernel_rfl) (by kernel_rfl) (fun _ _ _ h => h) (by rfl) ?_ (by assumption) ?_
  · intro V hV; clear hV; go_simp; try rfl
  try simp only [List.setIfInBounds_toArray, List.set_cons_zero, List.set_cons_succ]
  refine takeH (i := 14) 19 (.slice l.A a.labels.length l.c) rfl rfl (by kernel_rfl) (by kernel_rfl) (by kernel_rfl) (fun _ _ _ h => h) (by rfl) ?_ (by assumption) ?_
  · intro V hV; have hc := ka6 V hV.1; clear hV; go_simp; try rfl
  try simp only [List.setIfInBounds_toArray, List.set_cons_zero, List.set_cons_succ]
  refine takeH (i := 15) 20 (.pointer (some ⟨y, 6, none⟩)) rfl rfl (by kernel_rfl) (by kernel_rfl) (by kernel_rfl) (fun _ _ _ h => h) (by rfl) ?_ (by assumption) ?_
  · intro V hV; clear hV; go_simp; try rfl
  try simp only [List.setIfInBounds_toArray, List.set_cons_zero, List.set_cons_succ]
  refine takeH (i := 16) 21 (.slice l'.A b.labels.length l'.c) rfl rfl (by kernel_rfl) (by kernel_rfl) (by kernel_rfl) (fun _ _ _ h => h) (by rfl) ?_ (by assumption) ?_
  · intro V hV; have hc := kb6 V hV.2.1; clear hV; go_simp; try rfl
  try simp only [List.setIfInBounds_toArray, List.set_cons_zero, List.set_cons_succ]
  refine wpAnyH_ready (rs := [17]) (by kernel_rfl) (by simp) ?_
  refine AllReadyH.cons rfl (fun K hK => ?_) AllReadyH.nil
  rw [if_pos (by rfl)]
  go_simp
  go_at_call 86
  refine (HC1.out _ (And.right (And.right ‹_ ∧ _›))).mono ?_
  rintro e wq1 ⟨rfl, hb17⟩
  dsimp only
  refine hK.out _ _ (keepS lw.out (by assumption) hb17) (fun hHeld => ?_)
  clear hK K
  try simp only [Act.put, List.setIfInBounds_toArray, List.set_cons_zero, List.set_cons_succ]
  refine takeH (i := 18) 23 (.bool true) rfl rfl (by kernel_rfl) (by kernel_rfl) (by kernel_rfl) (fun _ _ _ h => h) (by rfl) ?_ (by assumption) ?_
  · intro V hV; clear hV; go_simp; try rfl
  try simp only [List.setIfInBounds_toArray, List.set_cons_zero, List.set_cons_succ]
  refine takeH (i := 19) 24 (.bool true) rfl rfl (by kernel_rfl) (by kernel_rfl) (by kernel_rfl) (fun _ _ _ h => h) (by rfl) ?_ (by assumption) ?_
  · intro V hV; clear hV; go_simp; try rfl
  try simp only [List.setIfInBounds_toArray, List.set_cons_zero, List.set_cons_succ]
  refine takeH (i := 20) 25 (.pointer (some ⟨x, 7, none⟩)) rfl rfl (by kernel_rfl) (by kernel_rfl) (by kernel_rfl) (fun _ _ _ h => h) (by rfl) ?_ (by assumption) ?_
  · intro V hV; clear hV; go_simp; try rfl
  try simp only [List.setIfInBounds_toArray, List.set_cons_zero, List.set_cons_succ]
  refine takeH (i := 21) 26 (.slice c.A a.cidrs.length c.c) rfl rfl (by kernel_rfl) (by kernel_rfl) (by kernel_rfl) (fun _ _ _ h => h) (by rfl) ?_ (by assumption) ?_
  · intro V hV; have hc := ka7 V hV.1; clear hV; go_simp; try rfl
  try simp only [List.setIfInBounds_toArray, List.set_cons_zero, List.set_cons_succ]
  refine takeH (i := 22) 27 (.pointer (some ⟨y, 7, none⟩)) rfl rfl (by kernel_rfl) (by kernel_rfl) (by kernel_rfl) (fun _ _ _ h => h) (by rfl) ?_ (by assumption) ?_
  · intro V hV; clear hV; go_simp; try rfl
  try simp only [List.setIfInBounds_toArray, List.set_cons_zero, List.set_cons_succ]
  refine takeH (i := 23) 28 (.slice c'.A b.cidrs.length c'.c) rfl rfl (by kernel_rfl) (by kernel_rfl) (by kernel_rfl) (fun _ _ _ h => h) (by rfl) ?_ (by assumption) ?_
  · intro V hV; have hc := kb7 V hV.2.1; clear hV; go_simp; try rfl
  try simp only [List.setIfInBounds_toArray, List.set_cons_zero, List.set_cons_succ]
  refine wpAnyH_ready (rs := [24]) (by kernel_rfl) (by simp) ?_
  refine AllReadyH.cons rfl (fun K hK => ?_) AllReadyH.nil
  rw [if_pos (by rfl)]
  go_simp
  go_at_call 85
  refine (HC2.out _ (And.right (And.right ‹_ ∧ _›))).mono ?_
  rintro e wq2 ⟨rfl, hb24⟩
  dsimp only
  refine hK.out _ _ (keepS lw.out (by assumption) hb24) (fun hHeld => ?_)
  clear hK K
  try simp only [Act.put, List.setIfInBounds_toArray, List.set_cons_zero, List.set_cons_succ]
  refine takeH (i := 25) 30 (.bool true) rfl rfl (by kernel_rfl) (by kernel_rfl) (by kernel_rfl) (fun _ _ _ h => h) (by rfl) ?_ (by assumption) ?_
  · intro V hV; clear hV; go_simp; try rfl
  try simp only [List.setIfInBounds_toArray, List.set_cons_zero, List.set_cons_succ]
  refine takeH (i := 26) 31 (.bool true) rfl rfl (by kernel_rfl) (by kernel_rfl) (by kernel_rfl) (fun _ _ _ h => h) (by rfl) ?_ (by assumption) ?_
  · intro V hV; clear hV; go_simp; try rfl
  try simp only [List.setIfInBounds_toArray, List.set_cons_zero, List.set_cons_succ]
  refine takeH (i := 27) 32 (.pointer (some ⟨x, 11, none⟩)) rfl rfl (by kernel_rfl) (by kernel_rfl) (by kernel_rfl) (fun _ _ _ h => h) (by rfl) ?_ (by assumption) ?_
  · intro V hV; clear hV; go_simp; try rfl
  try simp only [List.setIfInBounds_toArray, List.set_cons_zero, List.set_cons_succ]
  refine takeH (i := 28) 33 (.slice p.A a.fams.length p.c) rfl rfl (by kernel_rfl) (by kernel_rfl) (by kernel_rfl) (fun _ _ _ h => h) (by rfl) ?_ (by assumption) ?_
  · intro V hV; have hc := ka11 V hV.1; clear hV; go_simp; try rfl
  try simp only [List.setIfInBounds_toArray, List.set_cons_zero, List.set_cons_succ]
  refine takeH (i := 29) 34 (.pointer (some ⟨y, 11, none⟩)) rfl rfl (by kernel_rfl) (by kernel_rfl) (by kernel_rfl) (fun _ _ _ h => h) (by rfl) ?_ (by assumption) ?_
  · intro V hV; clear hV; go_simp; try rfl
  try simp only [List.setIfInBounds_toArray, List.set_cons_zero, List.set_cons_succ]
  refine takeH (i := 30) 35 (.slice p'.A b.fams.length p'.c) rfl rfl (by kernel_rfl) (by kernel_rfl) (by kernel_rfl) (fun _ _ _ h => h) (by rfl) ?_ (by assumption) ?_
  · intro V hV; have hc := kb11 V hV.2.1; clear hV; go_simp; try rfl
  try simp only [List.setIfInBounds_toArray, List.set_cons_zero, List.set_cons_succ]
  refine wpAnyH_ready (rs := [31]) (by kernel_rfl) (by simp) ?_
  refine AllReadyH.cons rfl (fun K hK => ?_) AllReadyH.nil
  rw [if_pos (by rfl)]
  go_simp
  go_at_call 87
  refine (HC3.out _ (And.right (And.right ‹_ ∧ _›))).mono ?_
  rintro e wq3 ⟨rfl, hb31⟩
  dsimp only
  refine hK.out _ _ (keepS lw.out (by assumption) hb31) (fun hHeld => ?_)
  clear hK K
  try simp only [Act.put, List.setIfInBounds_toArray, List.set_cons_zero, List.set_cons_succ]
  refine takeH (i := 32) 37 (.bool true) rfl rfl (by kernel_rfl) (by kernel_rfl) (by kernel_rfl) (fun _ _ _ h => h) (by rfl) ?_ (by assumption) ?_
  · intro V hV; clear hV; go_simp; try rfl
  try simp only [List.setIfInBounds_toArray, List.set_cons_zero, List.set_cons_succ]
  refine takeH (i := 33) 38 (.bool true) rfl rfl (by kernel_rfl) (by kernel_rfl) (by kernel_rfl) (fun _ _ _ h => h) (by rfl) ?_ (by assumption) ?_
  · intro V hV; clear hV; go_simp; try rfl
  try simp only [List.setIfInBounds_toArray, List.set_cons_zero, List.set_cons_succ]
  refine takeH (i := 34) 39 (.pointer (some ⟨x, 12, none⟩)) rfl rfl (by kernel_rfl) (by kernel_rfl) (by kernel_rfl) (fun _ _ _ h => h) (by rfl) ?_ (by assumption) ?_
  · intro V hV; clear hV; go_simp; try rfl
  try simp only [List.setIfInBounds_toArray, List.set_cons_zero, List.set_cons_succ]
  refine takeH (i := 35) 40 (.slice i.A a.ips.length i.c) rfl rfl (by kernel_rfl) (by kernel_rfl) (by kernel_rfl) (fun _ _ _ h => h) (by rfl) ?_ (by assumption) ?_
  · intro V hV; have hc := ka12 V hV.1; clear hV; go_simp; try rfl
  try simp only [List.setIfInBounds_toArray, List.set_cons_zero, List.set_cons_succ]
  refine takeH (i := 36) 41 (.pointer (some ⟨y, 12, none⟩)) rfl rfl (by kernel_rfl) (by kernel_rfl) (by kernel_rfl) (fun _ _ _ h => h) (by rfl) ?_ (by assumption) ?_
  · intro V hV; clear hV; go_simp; try rfl
  try simp only [List.setIfInBounds_toArray, List.set_cons_zero, List.set_cons_succ]
  refine takeH (i := 37) 42 (.slice i'.A b.ips.length i'.c) rfl rfl (by kernel_rfl) (by kernel_rfl) (by kernel_rfl) (fun _ _ _ h => h) (by rfl) ?_ (by assumption) ?_
  · intro V hV; have hc := kb12 V hV.2.1; clear hV; go_simp; try rfl
  try simp only [List.setIfInBounds_toArray, List.set_cons_zero, List.set_cons_succ]
  refine wpAnyH_ready (rs := [38]) (by kernel_rfl) (by simp) ?_
  refine AllReadyH.cons rfl (fun K hK => ?_) AllReadyH.nil
  rw [if_pos (by rfl)]
  go_simp
  go_at_call 85
  refine (HC4.out _ (And.right (And.right ‹_ ∧ _›))).mono ?_
  rintro e wq4 ⟨rfl, hb38⟩
  dsimp only
  refine hK.out _ _ (keepS lw.out (by assumption) hb38) (fun hHeld => ?_)
  clear hK K
  try simp only [Act.put, List.setIfInBounds_toArray, List.set_cons_zero, List.set_cons_succ]
  refine takeH (i := 39) 44 (.bool true) rfl rfl (by kernel_rfl) (by kernel_rfl) (by kernel_rfl) (fun _ _ _ h => h) (by rfl) ?_ (by assumption) ?_
  · intro V hV; clear hV; go_simp; try rfl
  try simp only [List.setIfInBounds_toArray, List.set_cons_zero, List.set_cons_succ]
  refine takeH (i := 40) 4 (.bool true) rfl rfl (by kernel_rfl) (by kernel_rfl) (by kernel_rfl) (fun _ _ _ h => h) (by rfl) ?_ (by assumption) ?_
  · intro V hV; clear hV; go_simp; try rfl
  try simp only [List.setIfInBounds_toArray, List.set_cons_zero, List.set_cons_succ]
  refine wpAnyH_done (by kernel_rfl) ?_ _
  have HE := Lib.hid hHeld
  go_wp2
  go_ret
  exact ⟨rfl, B1.out.trans (belowLe (by have := B1.out.size; exact this) HE.out.2.2)⟩
theorem same_any (a b : Ob) (f l c p i f' l' c' p' i' : Sl) (hs : a.fins.length ≤ 1000000 ∧ a.labels.length ≤ 1000000 ∧ a.cidrs.length ≤ 1000000 ∧ a.fams.length ≤ 1000000 ∧ a.ips.length ≤ 1000000) (w : World) (hr : RowsR w a f l c p i) (hq : RowsR w b f' l' c' p' i') :
    Calls Try.prog 49 #[.agg (oc a f l c p i), .agg (oc b f' l' c' p' i')] w fun e w' => e = .returned (.bool (sameB a b)) ∧ Below w.heap.size w w' := by
  unfold sameB
  cases h0 : flatB a b
  · rw [Bool.false_and]; exact same0_any a b f l c p i f' l' c' p' i' hs w hr hq h0
  rw [Bool.true_and]
  cases h1 : decide (a.fins = b.fins)
  · rw [Bool.false_and]; exact same1_any a b f l c p i f' l' c' p' i' hs w hr hq h0 h1
  rw [Bool.true_and]
  cases h2 : decide (a.labels = b.labels)
  · rw [Bool.false_and]; exact same2_any a b f l c p i f' l' c' p' i' hs w hr hq h0 h1 h2
  rw [Bool.true_and]
  cases h3 : decide (a.cidrs = b.cidrs)
  · rw [Bool.false_and]; exact same3_any a b f l c p i f' l' c' p' i' hs w hr hq h0 h1 h2 h3
  rw [Bool.true_and]
  cases h4 : decide (a.fams = b.fams)
  · rw [Bool.false_and]; exact same4_any a b f l c p i f' l' c' p' i' hs w hr hq h0 h1 h2 h3 h4
  rw [Bool.true_and]
  cases h5 : decide (a.ips = b.ips)
  · exact same5_any a b f l c p i f' l' c' p' i' hs w hr hq h0 h1 h2 h3 h4 h5
  · exact same6_any a b f l c p i f' l' c' p' i' hs w hr hq h0 h1 h2 h3 h4 h5
end Go.Proofs.Ytolndeolehkjoaa
