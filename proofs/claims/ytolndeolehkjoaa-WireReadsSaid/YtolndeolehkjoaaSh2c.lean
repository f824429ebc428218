/- Shapes: an object without the fields that its kind has. -/
import Derived.Test.YtolndeolehkjoaaSh1c
namespace Go.Proofs.Ytolndeolehkjoaa
set_option linter.unusedVariables false
set_option linter.unusedSimpArgs false
open Go.RowKit CodP
def base0 (o : Ob) : Ob := { o with kind := 0, name := ⟨#[]⟩, uid := 0, version := 0, deleting := false, fins := [], labels := [] }
def bare1 (o : Ob) : Ob := { base0 o with cidrs := [], status := ⟨#[]⟩ }
def bare2 (o : Ob) : Ob := { base0 o with type := 0, policy := 0, fams := [], ips := [] }
def bare3 (o : Ob) : Ob := { base0 o with v4 := ⟨#[]⟩, v6 := ⟨#[]⟩, bits := 0, sel := ⟨#[]⟩ }
def bare4 (o : Ob) : Ob := { base0 o with about := ⟨#[]⟩, reason := ⟨#[]⟩ }
theorem run_storeVar_field {P : Program} (w : World) (g j : Nat) (ty T : TypeId) (cs : Array Value) (v : Value) (hg : w.heap[g]? = some (.cells cs T (0, 0))) (hj : j < cs.size) (hi : (P.info? ty).map (·.size) = some 1) (h1 : v.oneCell' = true) :
    (storeVar ty ⟨g, j, none⟩ v).run P w = .ok () (w.setCell ⟨g, j, none⟩ v) := by
  have := run_storeCells_cells (P := P) g j [v] 0 w (fun q hq => by
      simp only [List.length_cons, List.length_nil] at hq
      obtain rfl : q = 0 := by omega
      simp [World.cell?, hg, hj]) (fun q hq => by simp [World.frozen?, hg]) (fun x hx => by simp at hx; subst hx; exact h1)
  have hc : v.cells = #[v] := by cases v <;> first | rfl | cases h1
  cases hq : P.info? ty with
  | none => simp [hq] at hi
  | some i =>
    have hs : i.size = 1 := by simpa [hq] using hi
    simp only [Nat.add_zero] at this
    simp [storeVar, sizeOf, typeInfo, hq, hc, hs, this, World.setCells]
/-- two blocks of a world that grew out of another -/
structure BR (w0 : World) (x y : Nat) (cs zs : Array Value) (w : World) : Prop where
  fx : w.heap[x]? = some (.cells cs 32 (0, 0))
  fy : w.heap[y]? = some (.cells zs 32 (0, 0))
  b : Below w0.heap.size w0 w
  ne : x ≠ y ∧ w0.heap.size ≤ x
theorem storeB {P : Program} {ops : Array Oper} {rest : List Oper} {o : Oper} {a : Act} {w w0 : World} {Q : Exit → Act → World → Prop} {x y : Nat} {cs zs : Array Value} (hgd : o.guard = none) (ty : TypeId) (p q : Operand) (ho : o.op = .store ty p q) (hd : o.dst = none)
    (j : Nat) (hx : a.eval p = .pointer (some ⟨x, j, none⟩)) (v : Value) (hv : a.eval q = v) (h1 : v.oneCell' = true) (hi : (P.info? ty).map (·.size) = some 1) (hB : BR w0 x y cs zs w) (hj : j < cs.size)
    (h : ∀ w', BR w0 x y (cs.setIfInBounds j v) zs w' → wpList P ops Q rest a w') : wpList P ops Q (o :: rest) a w := by
  refine wpList_plain hgd fun K hK => ?_
  unfold Oper.wp execOp
  simp only [ho, hx, hv, Instr.storeAt, Instr.sureAddr, Sem.run_bind, Sem.run_pure, Result.andThen_ok, run_storeVar_field w x j ty 32 cs v hB.fx hj hi h1]
  have e : a.put o.dst undef = a := by rw [hd]; rfl
  exact hK _ _ (by rw [e]; exact h _ ⟨heap_setCell_same _ _ _ _ _ _ hB.fx, (Below.heap_setCell _ _ _ _ (fun e => hB.ne.1 e.symm)).trans hB.fy, hB.b.setCell (p := ⟨x, j, none⟩) hB.ne.2 _, hB.ne⟩)

set_option maxRecDepth 100000 in
set_option maxHeartbeats 4000000 in
theorem bare1_any (o : Ob) (f l c p i : Sl) (hk : o.kind = 1) (w : World) :
    Calls Try.prog 50 #[.agg (oc o f l c p i)] w fun e w' => e = .returned (.agg (oc (bare1 o) Sl0 Sl0 Sl0 p i)) ∧ Below w.heap.size w w' := by
  obtain ⟨w1, hw1⟩ : ∃ w1, w1 = (w.alloc (.cells (oc o f l c p i) 32)).alloc (.cells zob 32) := ⟨_, rfl⟩
  have b1 : Below w.heap.size w w1 := by rw [hw1]; exact G.bthen (bel_alloc _ _) (bel_alloc _ _)
  have p1 : w1.heap[w.heap.size]? = some (.cells (oc o f l c p i) 32 (0, 0)) := by
    rw [hw1]; exact ((bel_alloc _ _).block _ (by simp)).trans (G.heap_new _ _)
  have q1 : w1.heap[w.heap.size + 1]? = some (.cells zob 32 (0, 0)) := by
    rw [hw1]
    have h2 := G.heap_new (w.alloc (.cells (oc o f l c p i) 32)) (.cells zob 32)
    rw [show (w.alloc (.cells (oc o f l c p i) 32)).heap.size = w.heap.size + 1 by simp] at h2
    exact h2
  obtain ⟨x, hx⟩ : ∃ x, x = w.heap.size := ⟨_, rfl⟩
  obtain ⟨y, hy⟩ : ∃ y, y = w.heap.size + 1 := ⟨_, rfl⟩
  rw [← hx] at p1
  rw [← hy] at q1
  have c0 : w1.cell? ⟨x, 0, none⟩ = some (.int .i64 o.kind) := by simp [World.cell?, p1, oc]
  have hB : BR w x y (oc o f l c p i) zob w1 := ⟨p1, q1, b1, by omega, by omega⟩
  have HW := Lib.hid hw1
  have HX := Lib.hid hx
  have HY := Lib.hid hy
  have hk1 : (o.kind == 1) = true := by rw [hk]; rfl
  have hk2 : (o.kind == 2) = false := by rw [hk]; rfl
  have hk3 : (o.kind == 3) = false := by rw [hk]; rfl
  have hk4 : (o.kind == 4) = false := by rw [hk]; rfl
  clear b1 p1 q1 hw1 hk
  go_enter Try.func50, Try.ntmps50
  go_upto_region 1 with (fail)
  rw [← HW.out, ← hy, ← hx]
  clear hx hy
  go_upto_region 2 with (fail)
  clear c0
  iterate 4 (first | go_values | go_skip | go_guarded | go_step)
  refine storeB rfl 3 (.tmp 6) (.const (.int .i64 0)) rfl rfl 0 rfl (.int .i64 0) rfl rfl (by kernel_rfl) hB (Nat.lt_of_sub_eq_succ rfl) ?_
  clear hB
  intro w1 hB0
  have hB : BR w x y #[.int .i64 0, .string o.name, .int .i64 o.uid, .int .i64 o.version, .bool o.deleting, .slice f.A o.fins.length f.c, .slice l.A o.labels.length l.c, .slice c.A o.cidrs.length c.c, .string o.status, .int .i64 o.type, .int .i64 o.policy, .slice p.A o.fams.length p.c, .slice i.A o.ips.length i.c, .string o.v4, .string o.v6, .int .i64 o.bits, .string o.sel, .string o.about, .string o.reason] zob w1 := hB0
  clear hB0
  iterate 3 (first | go_values | go_skip | go_guarded | go_step)
  refine storeB rfl 9 (.tmp 7) (.const (.string ⟨#[]⟩)) rfl rfl 1 rfl (.string ⟨#[]⟩) rfl rfl (by kernel_rfl) hB (Nat.lt_of_sub_eq_succ rfl) ?_
  clear hB
  intro w1 hB0
  have hB : BR w x y #[.int .i64 0, .string ⟨#[]⟩, .int .i64 o.uid, .int .i64 o.version, .bool o.deleting, .slice f.A o.fins.length f.c, .slice l.A o.labels.length l.c, .slice c.A o.cidrs.length c.c, .string o.status, .int .i64 o.type, .int .i64 o.policy, .slice p.A o.fams.length p.c, .slice i.A o.ips.length i.c, .string o.v4, .string o.v6, .int .i64 o.bits, .string o.sel, .string o.about, .string o.reason] zob w1 := hB0
  clear hB0
  iterate 3 (first | go_values | go_skip | go_guarded | go_step)
  refine storeB rfl 3 (.tmp 8) (.const (.int .i64 0)) rfl rfl 2 rfl (.int .i64 0) rfl rfl (by kernel_rfl) hB (Nat.lt_of_sub_eq_succ rfl) ?_
  clear hB
  intro w1 hB0
  have hB : BR w x y #[.int .i64 0, .string ⟨#[]⟩, .int .i64 0, .int .i64 o.version, .bool o.deleting, .slice f.A o.fins.length f.c, .slice l.A o.labels.length l.c, .slice c.A o.cidrs.length c.c, .string o.status, .int .i64 o.type, .int .i64 o.policy, .slice p.A o.fams.length p.c, .slice i.A o.ips.length i.c, .string o.v4, .string o.v6, .int .i64 o.bits, .string o.sel, .string o.about, .string o.reason] zob w1 := hB0
  clear hB0
  iterate 3 (first | go_values | go_skip | go_guarded | go_step)
  refine storeB rfl 3 (.tmp 9) (.const (.int .i64 0)) rfl rfl 3 rfl (.int .i64 0) rfl rfl (by kernel_rfl) hB (Nat.lt_of_sub_eq_succ rfl) ?_
  clear hB
  intro w1 hB0
  have hB : BR w x y #[.int .i64 0, .string ⟨#[]⟩, .int .i64 0, .int .i64 0, .bool o.deleting, .slice f.A o.fins.length f.c, .slice l.A o.labels.length l.c, .slice c.A o.cidrs.length c.c, .string o.status, .int .i64 o.type, .int .i64 o.policy, .slice p.A o.fams.length p.c, .slice i.A o.ips.length i.c, .string o.v4, .string o.v6, .int .i64 o.bits, .string o.sel, .string o.about, .string o.reason] zob w1 := hB0
  clear hB0
  iterate 3 (first | go_values | go_skip | go_guarded | go_step)
  refine storeB rfl 4 (.tmp 10) (.const (.bool false)) rfl rfl 4 rfl (.bool false) rfl rfl (by kernel_rfl) hB (Nat.lt_of_sub_eq_succ rfl) ?_
  clear hB
  intro w1 hB0
  have hB : BR w x y #[.int .i64 0, .string ⟨#[]⟩, .int .i64 0, .int .i64 0, .bool false, .slice f.A o.fins.length f.c, .slice l.A o.labels.length l.c, .slice c.A o.cidrs.length c.c, .string o.status, .int .i64 o.type, .int .i64 o.policy, .slice p.A o.fams.length p.c, .slice i.A o.ips.length i.c, .string o.v4, .string o.v6, .int .i64 o.bits, .string o.sel, .string o.about, .string o.reason] zob w1 := hB0
  clear hB0
  iterate 3 (first | go_values | go_skip | go_guarded | go_step)
  refine storeB rfl 28 (.tmp 11) (.const (.slice none 0 0)) rfl rfl 5 rfl (.slice none 0 0) rfl rfl (by kernel_rfl) hB (Nat.lt_of_sub_eq_succ rfl) ?_
  clear hB
  intro w1 hB0
  have hB : BR w x y #[.int .i64 0, .string ⟨#[]⟩, .int .i64 0, .int .i64 0, .bool false, .slice none 0 0, .slice l.A o.labels.length l.c, .slice c.A o.cidrs.length c.c, .string o.status, .int .i64 o.type, .int .i64 o.policy, .slice p.A o.fams.length p.c, .slice i.A o.ips.length i.c, .string o.v4, .string o.v6, .int .i64 o.bits, .string o.sel, .string o.about, .string o.reason] zob w1 := hB0
  clear hB0
  iterate 3 (first | go_values | go_skip | go_guarded | go_step)
  refine storeB rfl 29 (.tmp 12) (.const (.slice none 0 0)) rfl rfl 6 rfl (.slice none 0 0) rfl rfl (by kernel_rfl) hB (Nat.lt_of_sub_eq_succ rfl) ?_
  clear hB
  intro w1 hB0
  have hB : BR w x y #[.int .i64 0, .string ⟨#[]⟩, .int .i64 0, .int .i64 0, .bool false, .slice none 0 0, .slice none 0 0, .slice c.A o.cidrs.length c.c, .string o.status, .int .i64 o.type, .int .i64 o.policy, .slice p.A o.fams.length p.c, .slice i.A o.ips.length i.c, .string o.v4, .string o.v6, .int .i64 o.bits, .string o.sel, .string o.about, .string o.reason] zob w1 := hB0
  clear hB0
  go_upto_region 5 with (fail)
  iterate 4 (first | go_values | go_skip | go_guarded | go_step)
  refine storeB rfl 28 (.tmp 16) (.const (.slice none 0 0)) rfl rfl 7 rfl (.slice none 0 0) rfl rfl (by kernel_rfl) hB (Nat.lt_of_sub_eq_succ rfl) ?_
  clear hB
  intro w1 hB0
  have hB : BR w x y #[.int .i64 0, .string ⟨#[]⟩, .int .i64 0, .int .i64 0, .bool false, .slice none 0 0, .slice none 0 0, .slice none 0 0, .string o.status, .int .i64 o.type, .int .i64 o.policy, .slice p.A o.fams.length p.c, .slice i.A o.ips.length i.c, .string o.v4, .string o.v6, .int .i64 o.bits, .string o.sel, .string o.about, .string o.reason] zob w1 := hB0
  clear hB0
  iterate 3 (first | go_values | go_skip | go_guarded | go_step)
  refine storeB rfl 9 (.tmp 17) (.const (.string ⟨#[]⟩)) rfl rfl 8 rfl (.string ⟨#[]⟩) rfl rfl (by kernel_rfl) hB (Nat.lt_of_sub_eq_succ rfl) ?_
  clear hB
  intro w1 hB0
  have hB : BR w x y #[.int .i64 0, .string ⟨#[]⟩, .int .i64 0, .int .i64 0, .bool false, .slice none 0 0, .slice none 0 0, .slice none 0 0, .string ⟨#[]⟩, .int .i64 o.type, .int .i64 o.policy, .slice p.A o.fams.length p.c, .slice i.A o.ips.length i.c, .string o.v4, .string o.v6, .int .i64 o.bits, .string o.sel, .string o.about, .string o.reason] zob w1 := hB0
  clear hB0
  go_upto_region 12 with (fail)
  iterate 1 (first | go_values | go_skip | go_guarded | go_step)
  refine wpList_load_row rfl 32 (.tmp 1) rfl x rfl 32 _ (0, 0) _ hB.fx Try.underlying32 rfl size32 ?_
  refine wpList_store_row rfl 32 (.tmp 2) (.tmp 34) rfl y (oc (bare1 o) Sl0 Sl0 Sl0 p i) rfl rfl 32 _ hB.fy size32 rfl (oc_one (bare1 o) Sl0 Sl0 Sl0 p i) ?_
  have HBF : BR w x y (oc (bare1 o) Sl0 Sl0 Sl0 p i) zob _ := hB
  clear hB
  go_wp2
  refine bodyPost_ret (results_cell_row rfl _ _ y 32 (oc (bare1 o) Sl0 Sl0 Sl0 p i) (0, 0) _ rfl (setRow_heap _ _ _ _ _ _ HBF.fy) Try.underlying32 rfl size32) rfl ⟨rfl, ?_⟩
  exact HBF.b.trans ⟨rfl, rfl, rfl, by rw [size_setRow]; exact Nat.le_refl _, fun j hj => setRow_other _ _ _ _ (by rw [HY.out]; omega)⟩

set_option maxRecDepth 100000 in
set_option maxHeartbeats 4000000 in
theorem bare2_any (o : Ob) (f l c p i : Sl) (hk : o.kind = 2) (w : World) :
    Calls Try.prog 50 #[.agg (oc o f l c p i)] w fun e w' => e = .returned (.agg (oc (bare2 o) Sl0 Sl0 c Sl0 Sl0)) ∧ Below w.heap.size w w' := by
  obtain ⟨w1, hw1⟩ : ∃ w1, w1 = (w.alloc (.cells (oc o f l c p i) 32)).alloc (.cells zob 32) := ⟨_, rfl⟩
  have b1 : Below w.heap.size w w1 := by rw [hw1]; exact G.bthen (bel_alloc _ _) (bel_alloc _ _)
  have p1 : w1.heap[w.heap.size]? = some (.cells (oc o f l c p i) 32 (0, 0)) := by
    rw [hw1]; exact ((bel_alloc _ _).block _ (by simp)).trans (G.heap_new _ _)
  have q1 : w1.heap[w.heap.size + 1]? = some (.cells zob 32 (0, 0)) := by
    rw [hw1]
    have h2 := G.heap_new (w.alloc (.cells (oc o f l c p i) 32)) (.cells zob 32)
    rw [show (w.alloc (.cells (oc o f l c p i) 32)).heap.size = w.heap.size + 1 by simp] at h2
    exact h2
  obtain ⟨x, hx⟩ : ∃ x, x = w.heap.size := ⟨_, rfl⟩
  obtain ⟨y, hy⟩ : ∃ y, y = w.heap.size + 1 := ⟨_, rfl⟩
  rw [← hx] at p1
  rw [← hy] at q1
  have c0 : w1.cell? ⟨x, 0, none⟩ = some (.int .i64 o.kind) := by simp [World.cell?, p1, oc]
  have hB : BR w x y (oc o f l c p i) zob w1 := ⟨p1, q1, b1, by omega, by omega⟩
  have HW := Lib.hid hw1
  have HX := Lib.hid hx
  have HY := Lib.hid hy
  have hk1 : (o.kind == 1) = false := by rw [hk]; rfl
  have hk2 : (o.kind == 2) = true := by rw [hk]; rfl
  have hk3 : (o.kind == 3) = false := by rw [hk]; rfl
  have hk4 : (o.kind == 4) = false := by rw [hk]; rfl
  clear b1 p1 q1 hw1 hk
  go_enter Try.func50, Try.ntmps50
  go_upto_region 1 with (fail)
  rw [← HW.out, ← hy, ← hx]
  clear hx hy
  go_upto_region 2 with (fail)
  clear c0
  iterate 4 (first | go_values | go_skip | go_guarded | go_step)
  refine storeB rfl 3 (.tmp 6) (.const (.int .i64 0)) rfl rfl 0 rfl (.int .i64 0) rfl rfl (by kernel_rfl) hB (Nat.lt_of_sub_eq_succ rfl) ?_
  clear hB
  intro w1 hB0
  have hB : BR w x y #[.int .i64 0, .string o.name, .int .i64 o.uid, .int .i64 o.version, .bool o.deleting, .slice f.A o.fins.length f.c, .slice l.A o.labels.length l.c, .slice c.A o.cidrs.length c.c, .string o.status, .int .i64 o.type, .int .i64 o.policy, .slice p.A o.fams.length p.c, .slice i.A o.ips.length i.c, .string o.v4, .string o.v6, .int .i64 o.bits, .string o.sel, .string o.about, .string o.reason] zob w1 := hB0
  clear hB0
  iterate 3 (first | go_values | go_skip | go_guarded | go_step)
  refine storeB rfl 9 (.tmp 7) (.const (.string ⟨#[]⟩)) rfl rfl 1 rfl (.string ⟨#[]⟩) rfl rfl (by kernel_rfl) hB (Nat.lt_of_sub_eq_succ rfl) ?_
  clear hB
  intro w1 hB0
  have hB : BR w x y #[.int .i64 0, .string ⟨#[]⟩, .int .i64 o.uid, .int .i64 o.version, .bool o.deleting, .slice f.A o.fins.length f.c, .slice l.A o.labels.length l.c, .slice c.A o.cidrs.length c.c, .string o.status, .int .i64 o.type, .int .i64 o.policy, .slice p.A o.fams.length p.c, .slice i.A o.ips.length i.c, .string o.v4, .string o.v6, .int .i64 o.bits, .string o.sel, .string o.about, .string o.reason] zob w1 := hB0
  clear hB0
  iterate 3 (first | go_values | go_skip | go_guarded | go_step)
  refine storeB rfl 3 (.tmp 8) (.const (.int .i64 0)) rfl rfl 2 rfl (.int .i64 0) rfl rfl (by kernel_rfl) hB (Nat.lt_of_sub_eq_succ rfl) ?_
  clear hB
  intro w1 hB0
  have hB : BR w x y #[.int .i64 0, .string ⟨#[]⟩, .int .i64 0, .int .i64 o.version, .bool o.deleting, .slice f.A o.fins.length f.c, .slice l.A o.labels.length l.c, .slice c.A o.cidrs.length c.c, .string o.status, .int .i64 o.type, .int .i64 o.policy, .slice p.A o.fams.length p.c, .slice i.A o.ips.length i.c, .string o.v4, .string o.v6, .int .i64 o.bits, .string o.sel, .string o.about, .string o.reason] zob w1 := hB0
  clear hB0
  iterate 3 (first | go_values | go_skip | go_guarded | go_step)
  refine storeB rfl 3 (.tmp 9) (.const (.int .i64 0)) rfl rfl 3 rfl (.int .i64 0) rfl rfl (by kernel_rfl) hB (Nat.lt_of_sub_eq_succ rfl) ?_
  clear hB
  intro w1 hB0
  have hB : BR w x y #[.int .i64 0, .string ⟨#[]⟩, .int .i64 0, .int .i64 0, .bool o.deleting, .slice f.A o.fins.length f.c, .slice l.A o.labels.length l.c, .slice c.A o.cidrs.length c.c, .string o.status, .int .i64 o.type, .int .i64 o.policy, .slice p.A o.fams.length p.c, .slice i.A o.ips.length i.c, .string o.v4, .string o.v6, .int .i64 o.bits, .string o.sel, .string o.about, .string o.reason] zob w1 := hB0
  clear hB0
  iterate 3 (first | go_values | go_skip | go_guarded | go_step)
  refine storeB rfl 4 (.tmp 10) (.const (.bool false)) rfl rfl 4 rfl (.bool false) rfl rfl (by kernel_rfl) hB (Nat.lt_of_sub_eq_succ rfl) ?_
  clear hB
  intro w1 hB0
  have hB : BR w x y #[.int .i64 0, .string ⟨#[]⟩, .int .i64 0, .int .i64 0, .bool false, .slice f.A o.fins.length f.c, .slice l.A o.labels.length l.c, .slice c.A o.cidrs.length c.c, .string o.status, .int .i64 o.type, .int .i64 o.policy, .slice p.A o.fams.length p.c, .slice i.A o.ips.length i.c, .string o.v4, .string o.v6, .int .i64 o.bits, .string o.sel, .string o.about, .string o.reason] zob w1 := hB0
  clear hB0
  iterate 3 (first | go_values | go_skip | go_guarded | go_step)
  refine storeB rfl 28 (.tmp 11) (.const (.slice none 0 0)) rfl rfl 5 rfl (.slice none 0 0) rfl rfl (by kernel_rfl) hB (Nat.lt_of_sub_eq_succ rfl) ?_
  clear hB
  intro w1 hB0
  have hB : BR w x y #[.int .i64 0, .string ⟨#[]⟩, .int .i64 0, .int .i64 0, .bool false, .slice none 0 0, .slice l.A o.labels.length l.c, .slice c.A o.cidrs.length c.c, .string o.status, .int .i64 o.type, .int .i64 o.policy, .slice p.A o.fams.length p.c, .slice i.A o.ips.length i.c, .string o.v4, .string o.v6, .int .i64 o.bits, .string o.sel, .string o.about, .string o.reason] zob w1 := hB0
  clear hB0
  iterate 3 (first | go_values | go_skip | go_guarded | go_step)
  refine storeB rfl 29 (.tmp 12) (.const (.slice none 0 0)) rfl rfl 6 rfl (.slice none 0 0) rfl rfl (by kernel_rfl) hB (Nat.lt_of_sub_eq_succ rfl) ?_
  clear hB
  intro w1 hB0
  have hB : BR w x y #[.int .i64 0, .string ⟨#[]⟩, .int .i64 0, .int .i64 0, .bool false, .slice none 0 0, .slice none 0 0, .slice c.A o.cidrs.length c.c, .string o.status, .int .i64 o.type, .int .i64 o.policy, .slice p.A o.fams.length p.c, .slice i.A o.ips.length i.c, .string o.v4, .string o.v6, .int .i64 o.bits, .string o.sel, .string o.about, .string o.reason] zob w1 := hB0
  clear hB0
  go_upto_region 7 with (fail)
  iterate 4 (first | go_values | go_skip | go_guarded | go_step)
  refine storeB rfl 3 (.tmp 20) (.const (.int .i64 0)) rfl rfl 9 rfl (.int .i64 0) rfl rfl (by kernel_rfl) hB (Nat.lt_of_sub_eq_succ rfl) ?_
  clear hB
  intro w1 hB0
  have hB : BR w x y #[.int .i64 0, .string ⟨#[]⟩, .int .i64 0, .int .i64 0, .bool false, .slice none 0 0, .slice none 0 0, .slice c.A o.cidrs.length c.c, .string o.status, .int .i64 0, .int .i64 o.policy, .slice p.A o.fams.length p.c, .slice i.A o.ips.length i.c, .string o.v4, .string o.v6, .int .i64 o.bits, .string o.sel, .string o.about, .string o.reason] zob w1 := hB0
  clear hB0
  iterate 3 (first | go_values | go_skip | go_guarded | go_step)
  refine storeB rfl 3 (.tmp 21) (.const (.int .i64 0)) rfl rfl 10 rfl (.int .i64 0) rfl rfl (by kernel_rfl) hB (Nat.lt_of_sub_eq_succ rfl) ?_
  clear hB
  intro w1 hB0
  have hB : BR w x y #[.int .i64 0, .string ⟨#[]⟩, .int .i64 0, .int .i64 0, .bool false, .slice none 0 0, .slice none 0 0, .slice c.A o.cidrs.length c.c, .string o.status, .int .i64 0, .int .i64 0, .slice p.A o.fams.length p.c, .slice i.A o.ips.length i.c, .string o.v4, .string o.v6, .int .i64 o.bits, .string o.sel, .string o.about, .string o.reason] zob w1 := hB0
  clear hB0
  iterate 3 (first | go_values | go_skip | go_guarded | go_step)
  refine storeB rfl 30 (.tmp 22) (.const (.slice none 0 0)) rfl rfl 11 rfl (.slice none 0 0) rfl rfl (by kernel_rfl) hB (Nat.lt_of_sub_eq_succ rfl) ?_
  clear hB
  intro w1 hB0
  have hB : BR w x y #[.int .i64 0, .string ⟨#[]⟩, .int .i64 0, .int .i64 0, .bool false, .slice none 0 0, .slice none 0 0, .slice c.A o.cidrs.length c.c, .string o.status, .int .i64 0, .int .i64 0, .slice none 0 0, .slice i.A o.ips.length i.c, .string o.v4, .string o.v6, .int .i64 o.bits, .string o.sel, .string o.about, .string o.reason] zob w1 := hB0
  clear hB0
  iterate 3 (first | go_values | go_skip | go_guarded | go_step)
  refine storeB rfl 28 (.tmp 23) (.const (.slice none 0 0)) rfl rfl 12 rfl (.slice none 0 0) rfl rfl (by kernel_rfl) hB (Nat.lt_of_sub_eq_succ rfl) ?_
  clear hB
  intro w1 hB0
  have hB : BR w x y #[.int .i64 0, .string ⟨#[]⟩, .int .i64 0, .int .i64 0, .bool false, .slice none 0 0, .slice none 0 0, .slice c.A o.cidrs.length c.c, .string o.status, .int .i64 0, .int .i64 0, .slice none 0 0, .slice none 0 0, .string o.v4, .string o.v6, .int .i64 o.bits, .string o.sel, .string o.about, .string o.reason] zob w1 := hB0
  clear hB0
  go_upto_region 12 with (fail)
  iterate 1 (first | go_values | go_skip | go_guarded | go_step)
  refine wpList_load_row rfl 32 (.tmp 1) rfl x rfl 32 _ (0, 0) _ hB.fx Try.underlying32 rfl size32 ?_
  refine wpList_store_row rfl 32 (.tmp 2) (.tmp 34) rfl y (oc (bare2 o) Sl0 Sl0 c Sl0 Sl0) rfl rfl 32 _ hB.fy size32 rfl (oc_one (bare2 o) Sl0 Sl0 c Sl0 Sl0) ?_
  have HBF : BR w x y (oc (bare2 o) Sl0 Sl0 c Sl0 Sl0) zob _ := hB
  clear hB
  go_wp2
  refine bodyPost_ret (results_cell_row rfl _ _ y 32 (oc (bare2 o) Sl0 Sl0 c Sl0 Sl0) (0, 0) _ rfl (setRow_heap _ _ _ _ _ _ HBF.fy) Try.underlying32 rfl size32) rfl ⟨rfl, ?_⟩
  exact HBF.b.trans ⟨rfl, rfl, rfl, by rw [size_setRow]; exact Nat.le_refl _, fun j hj => setRow_other _ _ _ _ (by rw [HY.out]; omega)⟩

set_option maxRecDepth 100000 in
set_option maxHeartbeats 4000000 in
theorem bare3_any (o : Ob) (f l c p i : Sl) (hk : o.kind = 3) (w : World) :
    Calls Try.prog 50 #[.agg (oc o f l c p i)] w fun e w' => e = .returned (.agg (oc (bare3 o) Sl0 Sl0 c p i)) ∧ Below w.heap.size w w' := by
  obtain ⟨w1, hw1⟩ : ∃ w1, w1 = (w.alloc (.cells (oc o f l c p i) 32)).alloc (.cells zob 32) := ⟨_, rfl⟩
  have b1 : Below w.heap.size w w1 := by rw [hw1]; exact G.bthen (bel_alloc _ _) (bel_alloc _ _)
  have p1 : w1.heap[w.heap.size]? = some (.cells (oc o f l c p i) 32 (0, 0)) := by
    rw [hw1]; exact ((bel_alloc _ _).block _ (by simp)).trans (G.heap_new _ _)
  have q1 : w1.heap[w.heap.size + 1]? = some (.cells zob 32 (0, 0)) := by
    rw [hw1]
    have h2 := G.heap_new (w.alloc (.cells (oc o f l c p i) 32)) (.cells zob 32)
    rw [show (w.alloc (.cells (oc o f l c p i) 32)).heap.size = w.heap.size + 1 by simp] at h2
    exact h2
  obtain ⟨x, hx⟩ : ∃ x, x = w.heap.size := ⟨_, rfl⟩
  obtain ⟨y, hy⟩ : ∃ y, y = w.heap.size + 1 := ⟨_, rfl⟩
  rw [← hx] at p1
  rw [← hy] at q1
  have c0 : w1.cell? ⟨x, 0, none⟩ = some (.int .i64 o.kind) := by simp [World.cell?, p1, oc]
  have hB : BR w x y (oc o f l c p i) zob w1 := ⟨p1, q1, b1, by omega, by omega⟩
  have HW := Lib.hid hw1
  have HX := Lib.hid hx
  have HY := Lib.hid hy
  have hk1 : (o.kind == 1) = false := by rw [hk]; rfl
  have hk2 : (o.kind == 2) = false := by rw [hk]; rfl
  have hk3 : (o.kind == 3) = true := by rw [hk]; rfl
  have hk4 : (o.kind == 4) = false := by rw [hk]; rfl
  clear b1 p1 q1 hw1 hk
  go_enter Try.func50, Try.ntmps50
  go_upto_region 1 with (fail)
  rw [← HW.out, ← hy, ← hx]
  clear hx hy
  go_upto_region 2 with (fail)
  clear c0
  iterate 4 (first | go_values | go_skip | go_guarded | go_step)
  refine storeB rfl 3 (.tmp 6) (.const (.int .i64 0)) rfl rfl 0 rfl (.int .i64 0) rfl rfl (by kernel_rfl) hB (Nat.lt_of_sub_eq_succ rfl) ?_
  clear hB
  intro w1 hB0
  have hB : BR w x y #[.int .i64 0, .string o.name, .int .i64 o.uid, .int .i64 o.version, .bool o.deleting, .slice f.A o.fins.length f.c, .slice l.A o.labels.length l.c, .slice c.A o.cidrs.length c.c, .string o.status, .int .i64 o.type, .int .i64 o.policy, .slice p.A o.fams.length p.c, .slice i.A o.ips.length i.c, .string o.v4, .string o.v6, .int .i64 o.bits, .string o.sel, .string o.about, .string o.reason] zob w1 := hB0
  clear hB0
  iterate 3 (first | go_values | go_skip | go_guarded | go_step)
  refine storeB rfl 9 (.tmp 7) (.const (.string ⟨#[]⟩)) rfl rfl 1 rfl (.string ⟨#[]⟩) rfl rfl (by kernel_rfl) hB (Nat.lt_of_sub_eq_succ rfl) ?_
  clear hB
  intro w1 hB0
  have hB : BR w x y #[.int .i64 0, .string ⟨#[]⟩, .int .i64 o.uid, .int .i64 o.version, .bool o.deleting, .slice f.A o.fins.length f.c, .slice l.A o.labels.length l.c, .slice c.A o.cidrs.length c.c, .string o.status, .int .i64 o.type, .int .i64 o.policy, .slice p.A o.fams.length p.c, .slice i.A o.ips.length i.c, .string o.v4, .string o.v6, .int .i64 o.bits, .string o.sel, .string o.about, .string o.reason] zob w1 := hB0
  clear hB0
  iterate 3 (first | go_values | go_skip | go_guarded | go_step)
  refine storeB rfl 3 (.tmp 8) (.const (.int .i64 0)) rfl rfl 2 rfl (.int .i64 0) rfl rfl (by kernel_rfl) hB (Nat.lt_of_sub_eq_succ rfl) ?_
  clear hB
  intro w1 hB0
  have hB : BR w x y #[.int .i64 0, .string ⟨#[]⟩, .int .i64 0, .int .i64 o.version, .bool o.deleting, .slice f.A o.fins.length f.c, .slice l.A o.labels.length l.c, .slice c.A o.cidrs.length c.c, .string o.status, .int .i64 o.type, .int .i64 o.policy, .slice p.A o.fams.length p.c, .slice i.A o.ips.length i.c, .string o.v4, .string o.v6, .int .i64 o.bits, .string o.sel, .string o.about, .string o.reason] zob w1 := hB0
  clear hB0
  iterate 3 (first | go_values | go_skip | go_guarded | go_step)
  refine storeB rfl 3 (.tmp 9) (.const (.int .i64 0)) rfl rfl 3 rfl (.int .i64 0) rfl rfl (by kernel_rfl) hB (Nat.lt_of_sub_eq_succ rfl) ?_
  clear hB
  intro w1 hB0
  have hB : BR w x y #[.int .i64 0, .string ⟨#[]⟩, .int .i64 0, .int .i64 0, .bool o.deleting, .slice f.A o.fins.length f.c, .slice l.A o.labels.length l.c, .slice c.A o.cidrs.length c.c, .string o.status, .int .i64 o.type, .int .i64 o.policy, .slice p.A o.fams.length p.c, .slice i.A o.ips.length i.c, .string o.v4, .string o.v6, .int .i64 o.bits, .string o.sel, .string o.about, .string o.reason] zob w1 := hB0
  clear hB0
  iterate 3 (first | go_values | go_skip | go_guarded | go_step)
  refine storeB rfl 4 (.tmp 10) (.const (.bool false)) rfl rfl 4 rfl (.bool false) rfl rfl (by kernel_rfl) hB (Nat.lt_of_sub_eq_succ rfl) ?_
  clear hB
  intro w1 hB0
  have hB : BR w x y #[.int .i64 0, .string ⟨#[]⟩, .int .i64 0, .int .i64 0, .bool false, .slice f.A o.fins.length f.c, .slice l.A o.labels.length l.c, .slice c.A o.cidrs.length c.c, .string o.status, .int .i64 o.type, .int .i64 o.policy, .slice p.A o.fams.length p.c, .slice i.A o.ips.length i.c, .string o.v4, .string o.v6, .int .i64 o.bits, .string o.sel, .string o.about, .string o.reason] zob w1 := hB0
  clear hB0
  iterate 3 (first | go_values | go_skip | go_guarded | go_step)
  refine storeB rfl 28 (.tmp 11) (.const (.slice none 0 0)) rfl rfl 5 rfl (.slice none 0 0) rfl rfl (by kernel_rfl) hB (Nat.lt_of_sub_eq_succ rfl) ?_
  clear hB
  intro w1 hB0
  have hB : BR w x y #[.int .i64 0, .string ⟨#[]⟩, .int .i64 0, .int .i64 0, .bool false, .slice none 0 0, .slice l.A o.labels.length l.c, .slice c.A o.cidrs.length c.c, .string o.status, .int .i64 o.type, .int .i64 o.policy, .slice p.A o.fams.length p.c, .slice i.A o.ips.length i.c, .string o.v4, .string o.v6, .int .i64 o.bits, .string o.sel, .string o.about, .string o.reason] zob w1 := hB0
  clear hB0
  iterate 3 (first | go_values | go_skip | go_guarded | go_step)
  refine storeB rfl 29 (.tmp 12) (.const (.slice none 0 0)) rfl rfl 6 rfl (.slice none 0 0) rfl rfl (by kernel_rfl) hB (Nat.lt_of_sub_eq_succ rfl) ?_
  clear hB
  intro w1 hB0
  have hB : BR w x y #[.int .i64 0, .string ⟨#[]⟩, .int .i64 0, .int .i64 0, .bool false, .slice none 0 0, .slice none 0 0, .slice c.A o.cidrs.length c.c, .string o.status, .int .i64 o.type, .int .i64 o.policy, .slice p.A o.fams.length p.c, .slice i.A o.ips.length i.c, .string o.v4, .string o.v6, .int .i64 o.bits, .string o.sel, .string o.about, .string o.reason] zob w1 := hB0
  clear hB0
  go_upto_region 9 with (fail)
  iterate 4 (first | go_values | go_skip | go_guarded | go_step)
  refine storeB rfl 9 (.tmp 26) (.const (.string ⟨#[]⟩)) rfl rfl 13 rfl (.string ⟨#[]⟩) rfl rfl (by kernel_rfl) hB (Nat.lt_of_sub_eq_succ rfl) ?_
  clear hB
  intro w1 hB0
  have hB : BR w x y #[.int .i64 0, .string ⟨#[]⟩, .int .i64 0, .int .i64 0, .bool false, .slice none 0 0, .slice none 0 0, .slice c.A o.cidrs.length c.c, .string o.status, .int .i64 o.type, .int .i64 o.policy, .slice p.A o.fams.length p.c, .slice i.A o.ips.length i.c, .string ⟨#[]⟩, .string o.v6, .int .i64 o.bits, .string o.sel, .string o.about, .string o.reason] zob w1 := hB0
  clear hB0
  iterate 3 (first | go_values | go_skip | go_guarded | go_step)
  refine storeB rfl 9 (.tmp 27) (.const (.string ⟨#[]⟩)) rfl rfl 14 rfl (.string ⟨#[]⟩) rfl rfl (by kernel_rfl) hB (Nat.lt_of_sub_eq_succ rfl) ?_
  clear hB
  intro w1 hB0
  have hB : BR w x y #[.int .i64 0, .string ⟨#[]⟩, .int .i64 0, .int .i64 0, .bool false, .slice none 0 0, .slice none 0 0, .slice c.A o.cidrs.length c.c, .string o.status, .int .i64 o.type, .int .i64 o.policy, .slice p.A o.fams.length p.c, .slice i.A o.ips.length i.c, .string ⟨#[]⟩, .string ⟨#[]⟩, .int .i64 o.bits, .string o.sel, .string o.about, .string o.reason] zob w1 := hB0
  clear hB0
  iterate 3 (first | go_values | go_skip | go_guarded | go_step)
  refine storeB rfl 3 (.tmp 28) (.const (.int .i64 0)) rfl rfl 15 rfl (.int .i64 0) rfl rfl (by kernel_rfl) hB (Nat.lt_of_sub_eq_succ rfl) ?_
  clear hB
  intro w1 hB0
  have hB : BR w x y #[.int .i64 0, .string ⟨#[]⟩, .int .i64 0, .int .i64 0, .bool false, .slice none 0 0, .slice none 0 0, .slice c.A o.cidrs.length c.c, .string o.status, .int .i64 o.type, .int .i64 o.policy, .slice p.A o.fams.length p.c, .slice i.A o.ips.length i.c, .string ⟨#[]⟩, .string ⟨#[]⟩, .int .i64 0, .string o.sel, .string o.about, .string o.reason] zob w1 := hB0
  clear hB0
  iterate 3 (first | go_values | go_skip | go_guarded | go_step)
  refine storeB rfl 9 (.tmp 29) (.const (.string ⟨#[]⟩)) rfl rfl 16 rfl (.string ⟨#[]⟩) rfl rfl (by kernel_rfl) hB (Nat.lt_of_sub_eq_succ rfl) ?_
  clear hB
  intro w1 hB0
  have hB : BR w x y #[.int .i64 0, .string ⟨#[]⟩, .int .i64 0, .int .i64 0, .bool false, .slice none 0 0, .slice none 0 0, .slice c.A o.cidrs.length c.c, .string o.status, .int .i64 o.type, .int .i64 o.policy, .slice p.A o.fams.length p.c, .slice i.A o.ips.length i.c, .string ⟨#[]⟩, .string ⟨#[]⟩, .int .i64 0, .string ⟨#[]⟩, .string o.about, .string o.reason] zob w1 := hB0
  clear hB0
  go_upto_region 12 with (fail)
  iterate 1 (first | go_values | go_skip | go_guarded | go_step)
  refine wpList_load_row rfl 32 (.tmp 1) rfl x rfl 32 _ (0, 0) _ hB.fx Try.underlying32 rfl size32 ?_
  refine wpList_store_row rfl 32 (.tmp 2) (.tmp 34) rfl y (oc (bare3 o) Sl0 Sl0 c p i) rfl rfl 32 _ hB.fy size32 rfl (oc_one (bare3 o) Sl0 Sl0 c p i) ?_
  have HBF : BR w x y (oc (bare3 o) Sl0 Sl0 c p i) zob _ := hB
  clear hB
  go_wp2
  refine bodyPost_ret (results_cell_row rfl _ _ y 32 (oc (bare3 o) Sl0 Sl0 c p i) (0, 0) _ rfl (setRow_heap _ _ _ _ _ _ HBF.fy) Try.underlying32 rfl size32) rfl ⟨rfl, ?_⟩
  exact HBF.b.trans ⟨rfl, rfl, rfl, by rw [size_setRow]; exact Nat.le_refl _, fun j hj => setRow_other _ _ _ _ (by rw [HY.out]; omega)⟩

set_option maxRecDepth 100000 in
set_option maxHeartbeats 4000000 in
theorem bare4_any (o : Ob) (f l c p i : Sl) (hk : o.kind = 4) (w : World) :
    Calls Try.prog 50 #[.agg (oc o f l c p i)] w fun e w' => e = .returned (.agg (oc (bare4 o) Sl0 Sl0 c p i)) ∧ Below w.heap.size w w' := by
  obtain ⟨w1, hw1⟩ : ∃ w1, w1 = (w.alloc (.cells (oc o f l c p i) 32)).alloc (.cells zob 32) := ⟨_, rfl⟩
  have b1 : Below w.heap.size w w1 := by rw [hw1]; exact G.bthen (bel_alloc _ _) (bel_alloc _ _)
  have p1 : w1.heap[w.heap.size]? = some (.cells (oc o f l c p i) 32 (0, 0)) := by
    rw [hw1]; exact ((bel_alloc _ _).block _ (by simp)).trans (G.heap_new _ _)
  have q1 : w1.heap[w.heap.size + 1]? = some (.cells zob 32 (0, 0)) := by
    rw [hw1]
    have h2 := G.heap_new (w.alloc (.cells (oc o f l c p i) 32)) (.cells zob 32)
    rw [show (w.alloc (.cells (oc o f l c p i) 32)).heap.size = w.heap.size + 1 by simp] at h2
    exact h2
  obtain ⟨x, hx⟩ : ∃ x, x = w.heap.size := ⟨_, rfl⟩
  obtain ⟨y, hy⟩ : ∃ y, y = w.heap.size + 1 := ⟨_, rfl⟩
  rw [← hx] at p1
  rw [← hy] at q1
  have c0 : w1.cell? ⟨x, 0, none⟩ = some (.int .i64 o.kind) := by simp [World.cell?, p1, oc]
  have hB : BR w x y (oc o f l c p i) zob w1 := ⟨p1, q1, b1, by omega, by omega⟩
  have HW := Lib.hid hw1
  have HX := Lib.hid hx
  have HY := Lib.hid hy
  have hk1 : (o.kind == 1) = false := by rw [hk]; rfl
  have hk2 : (o.kind == 2) = false := by rw [hk]; rfl
  have hk3 : (o.kind == 3) = false := by rw [hk]; rfl
  have hk4 : (o.kind == 4) = true := by rw [hk]; rfl
  clear b1 p1 q1 hw1 hk
  go_enter Try.func50, Try.ntmps50
  go_upto_region 1 with (fail)
  rw [← HW.out, ← hy, ← hx]
  clear hx hy
  go_upto_region 2 with (fail)
  clear c0
  iterate 4 (first | go_values | go_skip | go_guarded | go_step)
  refine storeB rfl 3 (.tmp 6) (.const (.int .i64 0)) rfl rfl 0 rfl (.int .i64 0) rfl rfl (by kernel_rfl) hB (Nat.lt_of_sub_eq_succ rfl) ?_
  clear hB
  intro w1 hB0
  have hB : BR w x y #[.int .i64 0, .string o.name, .int .i64 o.uid, .int .i64 o.version, .bool o.deleting, .slice f.A o.fins.length f.c, .slice l.A o.labels.length l.c, .slice c.A o.cidrs.length c.c, .string o.status, .int .i64 o.type, .int .i64 o.policy, .slice p.A o.fams.length p.c, .slice i.A o.ips.length i.c, .string o.v4, .string o.v6, .int .i64 o.bits, .string o.sel, .string o.about, .string o.reason] zob w1 := hB0
  clear hB0
  iterate 3 (first | go_values | go_skip | go_guarded | go_step)
  refine storeB rfl 9 (.tmp 7) (.const (.string ⟨#[]⟩)) rfl rfl 1 rfl (.string ⟨#[]⟩) rfl rfl (by kernel_rfl) hB (Nat.lt_of_sub_eq_succ rfl) ?_
  clear hB
  intro w1 hB0
  have hB : BR w x y #[.int .i64 0, .string ⟨#[]⟩, .int .i64 o.uid, .int .i64 o.version, .bool o.deleting, .slice f.A o.fins.length f.c, .slice l.A o.labels.length l.c, .slice c.A o.cidrs.length c.c, .string o.status, .int .i64 o.type, .int .i64 o.policy, .slice p.A o.fams.length p.c, .slice i.A o.ips.length i.c, .string o.v4, .string o.v6, .int .i64 o.bits, .string o.sel, .string o.about, .string o.reason] zob w1 := hB0
  clear hB0
  iterate 3 (first | go_values | go_skip | go_guarded | go_step)
  refine storeB rfl 3 (.tmp 8) (.const (.int .i64 0)) rfl rfl 2 rfl (.int .i64 0) rfl rfl (by kernel_rfl) hB (Nat.lt_of_sub_eq_succ rfl) ?_
  clear hB
  intro w1 hB0
  have hB : BR w x y #[.int .i64 0, .string ⟨#[]⟩, .int .i64 0, .int .i64 o.version, .bool o.deleting, .slice f.A o.fins.length f.c, .slice l.A o.labels.length l.c, .slice c.A o.cidrs.length c.c, .string o.status, .int .i64 o.type, .int .i64 o.policy, .slice p.A o.fams.length p.c, .slice i.A o.ips.length i.c, .string o.v4, .string o.v6, .int .i64 o.bits, .string o.sel, .string o.about, .string o.reason] zob w1 := hB0
  clear hB0
  iterate 3 (first | go_values | go_skip | go_guarded | go_step)
  refine storeB rfl 3 (.tmp 9) (.const (.int .i64 0)) rfl rfl 3 rfl (.int .i64 0) rfl rfl (by kernel_rfl) hB (Nat.lt_of_sub_eq_succ rfl) ?_
  clear hB
  intro w1 hB0
  have hB : BR w x y #[.int .i64 0, .string ⟨#[]⟩, .int .i64 0, .int .i64 0, .bool o.deleting, .slice f.A o.fins.length f.c, .slice l.A o.labels.length l.c, .slice c.A o.cidrs.length c.c, .string o.status, .int .i64 o.type, .int .i64 o.policy, .slice p.A o.fams.length p.c, .slice i.A o.ips.length i.c, .string o.v4, .string o.v6, .int .i64 o.bits, .string o.sel, .string o.about, .string o.reason] zob w1 := hB0
  clear hB0
  iterate 3 (first | go_values | go_skip | go_guarded | go_step)
  refine storeB rfl 4 (.tmp 10) (.const (.bool false)) rfl rfl 4 rfl (.bool false) rfl rfl (by kernel_rfl) hB (Nat.lt_of_sub_eq_succ rfl) ?_
  clear hB
  intro w1 hB0
  have hB : BR w x y #[.int .i64 0, .string ⟨#[]⟩, .int .i64 0, .int .i64 0, .bool false, .slice f.A o.fins.length f.c, .slice l.A o.labels.length l.c, .slice c.A o.cidrs.length c.c, .string o.status, .int .i64 o.type, .int .i64 o.policy, .slice p.A o.fams.length p.c, .slice i.A o.ips.length i.c, .string o.v4, .string o.v6, .int .i64 o.bits, .string o.sel, .string o.about, .string o.reason] zob w1 := hB0
  clear hB0
  iterate 3 (first | go_values | go_skip | go_guarded | go_step)
  refine storeB rfl 28 (.tmp 11) (.const (.slice none 0 0)) rfl rfl 5 rfl (.slice none 0 0) rfl rfl (by kernel_rfl) hB (Nat.lt_of_sub_eq_succ rfl) ?_
  clear hB
  intro w1 hB0
  have hB : BR w x y #[.int .i64 0, .string ⟨#[]⟩, .int .i64 0, .int .i64 0, .bool false, .slice none 0 0, .slice l.A o.labels.length l.c, .slice c.A o.cidrs.length c.c, .string o.status, .int .i64 o.type, .int .i64 o.policy, .slice p.A o.fams.length p.c, .slice i.A o.ips.length i.c, .string o.v4, .string o.v6, .int .i64 o.bits, .string o.sel, .string o.about, .string o.reason] zob w1 := hB0
  clear hB0
  iterate 3 (first | go_values | go_skip | go_guarded | go_step)
  refine storeB rfl 29 (.tmp 12) (.const (.slice none 0 0)) rfl rfl 6 rfl (.slice none 0 0) rfl rfl (by kernel_rfl) hB (Nat.lt_of_sub_eq_succ rfl) ?_
  clear hB
  intro w1 hB0
  have hB : BR w x y #[.int .i64 0, .string ⟨#[]⟩, .int .i64 0, .int .i64 0, .bool false, .slice none 0 0, .slice none 0 0, .slice c.A o.cidrs.length c.c, .string o.status, .int .i64 o.type, .int .i64 o.policy, .slice p.A o.fams.length p.c, .slice i.A o.ips.length i.c, .string o.v4, .string o.v6, .int .i64 o.bits, .string o.sel, .string o.about, .string o.reason] zob w1 := hB0
  clear hB0
  go_upto_region 11 with (fail)
  iterate 4 (first | go_values | go_skip | go_guarded | go_step)
  refine storeB rfl 9 (.tmp 32) (.const (.string ⟨#[]⟩)) rfl rfl 17 rfl (.string ⟨#[]⟩) rfl rfl (by kernel_rfl) hB (Nat.lt_of_sub_eq_succ rfl) ?_
  clear hB
  intro w1 hB0
  have hB : BR w x y #[.int .i64 0, .string ⟨#[]⟩, .int .i64 0, .int .i64 0, .bool false, .slice none 0 0, .slice none 0 0, .slice c.A o.cidrs.length c.c, .string o.status, .int .i64 o.type, .int .i64 o.policy, .slice p.A o.fams.length p.c, .slice i.A o.ips.length i.c, .string o.v4, .string o.v6, .int .i64 o.bits, .string o.sel, .string ⟨#[]⟩, .string o.reason] zob w1 := hB0
  clear hB0
  iterate 3 (first | go_values | go_skip | go_guarded | go_step)
  refine storeB rfl 9 (.tmp 33) (.const (.string ⟨#[]⟩)) rfl rfl 18 rfl (.string ⟨#[]⟩) rfl rfl (by kernel_rfl) hB (Nat.lt_of_sub_eq_succ rfl) ?_
  clear hB
  intro w1 hB0
  have hB : BR w x y #[.int .i64 0, .string ⟨#[]⟩, .int .i64 0, .int .i64 0, .bool false, .slice none 0 0, .slice none 0 0, .slice c.A o.cidrs.length c.c, .string o.status, .int .i64 o.type, .int .i64 o.policy, .slice p.A o.fams.length p.c, .slice i.A o.ips.length i.c, .string o.v4, .string o.v6, .int .i64 o.bits, .string o.sel, .string ⟨#[]⟩, .string ⟨#[]⟩] zob w1 := hB0
  clear hB0
  go_upto_region 12 with (fail)
  iterate 1 (first | go_values | go_skip | go_guarded | go_step)
  refine wpList_load_row rfl 32 (.tmp 1) rfl x rfl 32 _ (0, 0) _ hB.fx Try.underlying32 rfl size32 ?_
  refine wpList_store_row rfl 32 (.tmp 2) (.tmp 34) rfl y (oc (bare4 o) Sl0 Sl0 c p i) rfl rfl 32 _ hB.fy size32 rfl (oc_one (bare4 o) Sl0 Sl0 c p i) ?_
  have HBF : BR w x y (oc (bare4 o) Sl0 Sl0 c p i) zob _ := hB
  clear hB
  go_wp2
  refine bodyPost_ret (results_cell_row rfl _ _ y 32 (oc (bare4 o) Sl0 Sl0 c p i) (0, 0) _ rfl (setRow_heap _ _ _ _ _ _ HBF.fy) Try.underlying32 rfl size32) rfl ⟨rfl, ?_⟩
  exact HBF.b.trans ⟨rfl, rfl, rfl, by rw [size_setRow]; exact Nat.le_refl _, fun j hj => setRow_other _ _ _ _ (by rw [HY.out]; omega)⟩
end Go.Proofs.Ytolndeolehkjoaa
namespace Go.Proofs.Ytolndeolehkjoaa
set_option linter.unusedVariables false
set_option linter.unusedSimpArgs false
open Go.RowKit CodP
def bareO (o : Ob) : Ob := if o.kind = 1 then bare1 o else if o.kind = 2 then bare2 o else if o.kind = 3 then bare3 o else bare4 o
theorem bare_any (o : Ob) (f l c p i : Sl) (hk : 1 ≤ o.kind ∧ o.kind ≤ 4) (w : World) (hr : RowsR w o f l c p i) :
    Calls Try.prog 50 #[.agg (oc o f l c p i)] w fun e w' => ∃ f' l' c' p' i', e = .returned (.agg (oc (bareO o) f' l' c' p' i')) ∧ RowsR w' (bareO o) f' l' c' p' i' ∧ Below w.heap.size w w' := by
  have n0 : ∀ V (A : Option Addr), RowR V A [] := fun V A => RowR.nil V A
  rcases (by omega : o.kind = 1 ∨ o.kind = 2 ∨ o.kind = 3 ∨ o.kind = 4) with h | h | h | h
  · have hb : bareO o = bare1 o := if_pos h
    rw [hb]
    refine (bare1_any o f l c p i h w).mono ?_
    rintro e w' ⟨rfl, hb⟩
    have k := hr.below hb
    exact ⟨_, _, _, _, _, rfl, ⟨n0 _ _, n0 _ _, n0 _ _, k.pr, k.ir⟩, hb⟩
  · have hb : bareO o = bare2 o := by unfold bareO; rw [if_neg (by omega), if_pos h]
    rw [hb]
    refine (bare2_any o f l c p i h w).mono ?_
    rintro e w' ⟨rfl, hb⟩
    have k := hr.below hb
    exact ⟨_, _, _, _, _, rfl, ⟨n0 _ _, n0 _ _, k.cr, n0 _ _, n0 _ _⟩, hb⟩
  · have hb : bareO o = bare3 o := by unfold bareO; rw [if_neg (by omega), if_neg (by omega), if_pos h]
    rw [hb]
    refine (bare3_any o f l c p i h w).mono ?_
    rintro e w' ⟨rfl, hb⟩
    have k := hr.below hb
    exact ⟨_, _, _, _, _, rfl, ⟨n0 _ _, n0 _ _, k.cr, k.pr, k.ir⟩, hb⟩
  · have hb : bareO o = bare4 o := by unfold bareO; rw [if_neg (by omega), if_neg (by omega), if_neg (by omega)]
    rw [hb]
    refine (bare4_any o f l c p i h w).mono ?_
    rintro e w' ⟨rfl, hb⟩
    have k := hr.below hb
    exact ⟨_, _, _, _, _, rfl, ⟨n0 _ _, n0 _ _, k.cr, k.pr, k.ir⟩, hb⟩
theorem emp_dec {T : Type} [DecidableEq T] (l : List T) : decide (l = []) = l.isEmpty := by cases l <;> simp
theorem sz_dec (s : ByteArray) : decide (s = ⟨#[]⟩) = (s.size == 0) := by
  rw [Bool.eq_iff_iff, decide_eq_true_iff, beq_iff_eq, size0]
theorem int_dec (n : Int) : decide (n = 0) = (n == 0) := by
  rw [Bool.eq_iff_iff, decide_eq_true_iff, beq_iff_eq]
theorem bare_same (o : Ob) (hk : 1 ≤ o.kind ∧ o.kind ≤ 4) : sameB (bareO o) zeroOb = only o := by
  have he : (⟨#[]⟩ : ByteArray) = ByteArray.empty := rfl
  rcases (by omega : o.kind = 1 ∨ o.kind = 2 ∨ o.kind = 3 ∨ o.kind = 4) with h | h | h | h
  · have hb : bareO o = bare1 o := if_pos h
    rw [hb]
    rw [Bool.eq_iff_iff]
    simp only [sameB, flatB, Bool.and_eq_true, decide_eq_true_eq]
    simp [bare1, base0, zeroOb, only, h, size0]
    constructor <;> (intro hh; (try simp only [he] at hh ⊢); simp_all)
  · have hb : bareO o = bare2 o := by unfold bareO; rw [if_neg (by omega), if_pos h]
    rw [hb]
    rw [Bool.eq_iff_iff]
    simp only [sameB, flatB, Bool.and_eq_true, decide_eq_true_eq]
    simp [bare2, base0, zeroOb, only, h, size0]
    constructor <;> (intro hh; (try simp only [he] at hh ⊢); simp_all)
  · have hb : bareO o = bare3 o := by unfold bareO; rw [if_neg (by omega), if_neg (by omega), if_pos h]
    rw [hb]
    rw [Bool.eq_iff_iff]
    simp only [sameB, flatB, Bool.and_eq_true, decide_eq_true_eq]
    simp [bare3, base0, zeroOb, only, h, size0]
    constructor <;> (intro hh; (try simp only [he] at hh ⊢); simp_all)
  · have hb : bareO o = bare4 o := by unfold bareO; rw [if_neg (by omega), if_neg (by omega), if_neg (by omega)]
    rw [hb]
    rw [Bool.eq_iff_iff]
    simp only [sameB, flatB, Bool.and_eq_true, decide_eq_true_eq]
    simp [bare4, base0, zeroOb, only, h, size0]
    constructor <;> (intro hh; (try simp only [he] at hh ⊢); simp_all)
end Go.Proofs.Ytolndeolehkjoaa
