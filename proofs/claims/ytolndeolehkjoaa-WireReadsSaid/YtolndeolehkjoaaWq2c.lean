/- Requests: bare, Only. -/
import Derived.Test.YtolndeolehkjoaaWq1c
namespace Go.Proofs.Ytolndeolehkjoaa
set_option linter.unusedVariables false
set_option linter.unusedSimpArgs false
open Go.RowKit CodP
/-- two blocks of a world that grew out of another: z is written -/
structure BQ (w0 : World) (z x y : Nat) (cs xs ys : Array Value) (w : World) : Prop where
  fz : w.heap[z]? = some (.cells cs 51 (0, 0))
  fx : z ≠ x → w.heap[x]? = some (.cells xs 51 (0, 0))
  fy : w.heap[y]? = some (.cells ys 51 (0, 0))
  b : Below w0.heap.size w0 w
  ne : y ≠ z ∧ w0.heap.size ≤ z
theorem storeQ {P : Program} {ops : Array Oper} {rest : List Oper} {o : Oper} {a : Act} {w w0 : World} {Q : Exit → Act → World → Prop} {z x y : Nat} {cs xs ys : Array Value} (hgd : o.guard = none) (ty : TypeId) (p q : Operand) (ho : o.op = .store ty p q) (hd : o.dst = none)
    (j : Nat) (hx : a.eval p = .pointer (some ⟨z, j, none⟩)) (v : Value) (hv : a.eval q = v) (h1 : v.oneCell' = true) (hi : (P.info? ty).map (·.size) = some 1) (hB : BQ w0 z x y cs xs ys w) (hj : j < cs.size)
    (h : ∀ w', BQ w0 z x y (cs.setIfInBounds j v) xs ys w' → wpList P ops Q rest a w') : wpList P ops Q (o :: rest) a w := by
  refine wpList_plain hgd fun K hK => ?_
  unfold Oper.wp execOp
  simp only [ho, hx, hv, Instr.storeAt, Instr.sureAddr, Sem.run_bind, Sem.run_pure, Result.andThen_ok, run_storeVar_field w z j ty 51 cs v hB.fz hj hi h1]
  have e : a.put o.dst undef = a := by rw [hd]; rfl
  exact hK _ _ (by rw [e]; exact h _ ⟨heap_setCell_same _ _ _ _ _ _ hB.fz, fun hzx => (Below.heap_setCell _ _ _ _ (fun e => hzx e.symm)).trans (hB.fx hzx), (Below.heap_setCell _ _ _ _ hB.ne.1).trans hB.fy, hB.b.setCell (p := ⟨z, j, none⟩) hB.ne.2 _, hB.ne⟩)
def setAll (cs : Array Value) : Nat → List Value → Array Value
  | _, [] => cs
  | o, v :: r => setAll (cs.setIfInBounds o v) (o + 1) r
theorem heap_setCells (b : Nat) (T : TypeId) : ∀ (vs : List Value) (o : Nat) (w : World) (cs : Array Value), w.heap[b]? = some (.cells cs T (0, 0)) → (w.setCells b o vs).heap[b]? = some (.cells (setAll cs o vs) T (0, 0))
  | [], _, _, _, h => h
  | v :: r, o, w, cs, h => heap_setCells b T r (o + 1) _ _ (heap_setCell_same _ _ _ _ _ _ h)
theorem heap_setCells_other (b k : Nat) (hk : k ≠ b) : ∀ (vs : List Value) (o : Nat) (w : World), (w.setCells b o vs).heap[k]? = w.heap[k]?
  | [], _, _ => rfl
  | v :: r, o, w => (heap_setCells_other b k hk r (o + 1) _).trans (Below.heap_setCell _ _ _ _ hk)
theorem below_setCells {B : Nat} {w0 : World} (b : Nat) (hb : B ≤ b) : ∀ (vs : List Value) (o : Nat) (w : World), Below B w0 w → Below B w0 (w.setCells b o vs)
  | [], _, _, h => h
  | v :: r, o, w, h => below_setCells b hb r (o + 1) _ (h.setCell (p := ⟨b, o, none⟩) hb _)
theorem rq_set (q : Rq) (f l c p i : Sl) (e : OE) : setAll (rq q f l c p i) 1 (ec e) = rq { q with ob := e.o } e.f e.l e.c e.p e.i := by kernel_rfl
theorem storeQob {ops : Array Oper} {rest : List Oper} {op : Oper} {a : Act} {w w0 : World} {Q : Exit → Act → World → Prop} {z x y : Nat} {q : Rq} {f l c p i : Sl} {xs ys : Array Value} (hgd : op.guard = none) (s t : Operand) (ho : op.op = .store 32 s t) (hd : op.dst = none)
    (hx : a.eval s = .pointer (some ⟨z, 1, none⟩)) (e : OE) (hv : a.eval t = .agg (oc e.o e.f e.l e.c e.p e.i)) (hB : BQ w0 z x y (rq q f l c p i) xs ys w)
    (h : ∀ w', BQ w0 z x y (rq { q with ob := e.o } e.f e.l e.c e.p e.i) xs ys w' → wpList Try.prog ops Q rest a w') : wpList Try.prog ops Q (op :: rest) a w := by
  refine wpList_store_mid hgd 32 s t ho z 1 _ hx hv ?_ size32 (oc_one e.o e.f e.l e.c e.p e.i) ?_
  · intro j hj
    have hj19 : j < 19 := hj
    constructor
    · have hs : 1 + j < (rq q f l c p i).size := by show 1 + j < 23; omega
      simp only [World.cell?, hB.fz]
      simp [Array.getElem?_eq_getElem hs]
    · simp [World.frozen?, hB.fz]
  · have e1 : a.put op.dst undef = a := by rw [hd]; rfl
    rw [e1]
    refine h _ ⟨?_, fun hzx => (heap_setCells_other z x (fun e => hzx e.symm) _ _ _).trans (hB.fx hzx), (heap_setCells_other z y hB.ne.1 _ _ _).trans hB.fy, below_setCells z hB.ne.2 _ _ _ hB.b, hB.ne⟩
    have := heap_setCells z 51 (ec e) 1 w _ hB.fz
    rw [rq_set] at this
    exact this
def bareQ (q : Rq) : Rq := if q.op = 1 ∨ q.op = 2 then { q with op := 0, ob := zeroOb } else if q.op = 3 then { q with op := 0, kind := 0, name := ⟨#[]⟩, version := 0 } else if q.op = 4 then { q with op := 0, kind := 0, name := ⟨#[]⟩ } else { q with op := 0, kind := 0 }
def onlyQ (q : Rq) : Rq := if q.op = 1 ∨ q.op = 2 then { zeroRq with op := q.op, ob := q.ob } else if q.op = 3 then { q with ob := zeroOb } else if q.op = 4 then { q with ob := zeroOb, version := 0 } else { zeroRq with op := q.op, kind := q.kind }
set_option maxRecDepth 100000 in
set_option maxHeartbeats 4000000 in
theorem bareq_1 (q : Rq) (f l c p i : Sl) (hk : q.op = 1) (w : World) :
    Calls Try.prog 56 #[.agg (rq q f l c p i)] w fun e w' => e = .returned (.agg (rq (bareQ q) Sl0 Sl0 Sl0 Sl0 Sl0)) ∧ Below w.heap.size w w' := by
  obtain ⟨w1, hw1, b1, p1, q1⟩ := two_rqs w (rq q f l c p i) zrq
  obtain ⟨x, hx⟩ : ∃ x, x = w.heap.size := ⟨_, rfl⟩
  obtain ⟨y, hy⟩ : ∃ y, y = w.heap.size + 1 := ⟨_, rfl⟩
  rw [← hx] at p1
  rw [← hy] at q1
  have x0 : w1.cell? ⟨x, 0, none⟩ = some (.int .i64 q.op) := by simp [World.cell?, p1, rq]
  have hB0 : BQ w x x y (rq q f l c p i) #[] zrq w1 := ⟨p1, fun h => absurd rfl h, q1, b1, by omega, by omega⟩
  have HB := Lib.hid hB0
  have hk1 : (q.op == 1) = true := by rw [hk]; rfl
  have hk2 : (q.op == 2) = false := by rw [hk]; rfl
  have hk3 : (q.op == 3) = false := by rw [hk]; rfl
  have hk4 : (q.op == 4) = false := by rw [hk]; rfl
  have hk5 : (q.op == 5) = false := by rw [hk]; rfl
  have HW := Lib.hid hw1
  have HY := Lib.hid hy
  have hbq : bareQ q = { q with op := 0, ob := zeroOb } := by unfold bareQ; rw [if_pos (by omega)]
  have HBQ := Lib.hid hbq
  clear b1 p1 q1 hw1 hB0 hk hbq
  go_enter Try.func56, Try.ntmps56
  go_upto_region 1 with (fail)
  rw [← HW.out, ← hy, ← hx]
  clear hx hy
  go_upto_region 4 with (fail)
  clear x0
  have hB := HB.out
  iterate 7 (first | go_values | go_skip | go_guarded | go_step)
  refine storeQob rfl (.tmp 9) (.tmp 8) rfl rfl rfl ⟨zeroOb, Sl0, Sl0, Sl0, Sl0, Sl0⟩ rfl hB ?_
  clear hB
  intro w2 hB0
  have hB : BQ w x x y #[.int .i64 q.op, .int .i64 0, .string ⟨#[]⟩, .int .i64 0, .int .i64 0, .bool false, .slice none 0 0, .slice none 0 0, .slice none 0 0, .string ⟨#[]⟩, .int .i64 0, .int .i64 0, .slice none 0 0, .slice none 0 0, .string ⟨#[]⟩, .string ⟨#[]⟩, .int .i64 0, .string ⟨#[]⟩, .string ⟨#[]⟩, .string ⟨#[]⟩, .int .i64 q.kind, .string q.name, .int .i64 q.version] #[] zrq w2 := hB0
  clear hB0
  go_upto_region 11 with (fail)
  iterate 4 (first | go_values | go_skip | go_guarded | go_step)
  refine storeQ rfl 3 (.tmp 22) (.const (.int .i64 0)) rfl rfl 0 rfl (.int .i64 0) rfl rfl (by kernel_rfl) hB (Nat.lt_of_sub_eq_succ rfl) ?_
  clear hB
  intro w8 hB0
  have hB : BQ w x x y #[.int .i64 0, .int .i64 0, .string ⟨#[]⟩, .int .i64 0, .int .i64 0, .bool false, .slice none 0 0, .slice none 0 0, .slice none 0 0, .string ⟨#[]⟩, .int .i64 0, .int .i64 0, .slice none 0 0, .slice none 0 0, .string ⟨#[]⟩, .string ⟨#[]⟩, .int .i64 0, .string ⟨#[]⟩, .string ⟨#[]⟩, .string ⟨#[]⟩, .int .i64 q.kind, .string q.name, .int .i64 q.version] #[] zrq w8 := hB0
  clear hB0
  go_upto_region 12 with (fail)
  iterate 1 (first | go_values | go_skip | go_guarded | go_step)
  refine wpList_load_row rfl 51 (.tmp 1) rfl x rfl 51 _ (0, 0) _ hB.fz Try.underlying51 rfl size51 ?_
  refine wpList_store_row rfl 51 (.tmp 2) (.tmp 23) rfl y #[.int .i64 0, .int .i64 0, .string ⟨#[]⟩, .int .i64 0, .int .i64 0, .bool false, .slice none 0 0, .slice none 0 0, .slice none 0 0, .string ⟨#[]⟩, .int .i64 0, .int .i64 0, .slice none 0 0, .slice none 0 0, .string ⟨#[]⟩, .string ⟨#[]⟩, .int .i64 0, .string ⟨#[]⟩, .string ⟨#[]⟩, .string ⟨#[]⟩, .int .i64 q.kind, .string q.name, .int .i64 q.version] rfl rfl 51 _ hB.fy size51 rfl (by simp [Value.oneCell', zrq]) ?_
  have HBF := Lib.hid hB
  clear hB
  go_wp2
  refine bodyPost_ret (results_cell_row rfl _ _ y 51 #[.int .i64 0, .int .i64 0, .string ⟨#[]⟩, .int .i64 0, .int .i64 0, .bool false, .slice none 0 0, .slice none 0 0, .slice none 0 0, .string ⟨#[]⟩, .int .i64 0, .int .i64 0, .slice none 0 0, .slice none 0 0, .string ⟨#[]⟩, .string ⟨#[]⟩, .int .i64 0, .string ⟨#[]⟩, .string ⟨#[]⟩, .string ⟨#[]⟩, .int .i64 q.kind, .string q.name, .int .i64 q.version] (0, 0) _ rfl (setRow_heap _ _ _ _ _ _ HBF.out.fy) Try.underlying51 rfl size51) rfl ⟨?_, ?_⟩
  · rw [HBQ.out]; rfl
  · exact HBF.out.b.trans ⟨rfl, rfl, rfl, by rw [size_setRow]; exact Nat.le_refl _, fun j hj => setRow_other _ _ _ _ (by rw [HY.out]; omega)⟩
set_option maxRecDepth 100000 in
set_option maxHeartbeats 4000000 in
theorem bareq_2 (q : Rq) (f l c p i : Sl) (hk : q.op = 2) (w : World) :
    Calls Try.prog 56 #[.agg (rq q f l c p i)] w fun e w' => e = .returned (.agg (rq (bareQ q) Sl0 Sl0 Sl0 Sl0 Sl0)) ∧ Below w.heap.size w w' := by
  obtain ⟨w1, hw1, b1, p1, q1⟩ := two_rqs w (rq q f l c p i) zrq
  obtain ⟨x, hx⟩ : ∃ x, x = w.heap.size := ⟨_, rfl⟩
  obtain ⟨y, hy⟩ : ∃ y, y = w.heap.size + 1 := ⟨_, rfl⟩
  rw [← hx] at p1
  rw [← hy] at q1
  have x0 : w1.cell? ⟨x, 0, none⟩ = some (.int .i64 q.op) := by simp [World.cell?, p1, rq]
  have hB0 : BQ w x x y (rq q f l c p i) #[] zrq w1 := ⟨p1, fun h => absurd rfl h, q1, b1, by omega, by omega⟩
  have HB := Lib.hid hB0
  have hk1 : (q.op == 1) = false := by rw [hk]; rfl
  have hk2 : (q.op == 2) = true := by rw [hk]; rfl
  have hk3 : (q.op == 3) = false := by rw [hk]; rfl
  have hk4 : (q.op == 4) = false := by rw [hk]; rfl
  have hk5 : (q.op == 5) = false := by rw [hk]; rfl
  have HW := Lib.hid hw1
  have HY := Lib.hid hy
  have hbq : bareQ q = { q with op := 0, ob := zeroOb } := by unfold bareQ; rw [if_pos (by omega)]
  have HBQ := Lib.hid hbq
  clear b1 p1 q1 hw1 hB0 hk hbq
  go_enter Try.func56, Try.ntmps56
  go_upto_region 1 with (fail)
  rw [← HW.out, ← hy, ← hx]
  clear hx hy
  go_upto_region 4 with (fail)
  clear x0
  have hB := HB.out
  iterate 7 (first | go_values | go_skip | go_guarded | go_step)
  refine storeQob rfl (.tmp 9) (.tmp 8) rfl rfl rfl ⟨zeroOb, Sl0, Sl0, Sl0, Sl0, Sl0⟩ rfl hB ?_
  clear hB
  intro w2 hB0
  have hB : BQ w x x y #[.int .i64 q.op, .int .i64 0, .string ⟨#[]⟩, .int .i64 0, .int .i64 0, .bool false, .slice none 0 0, .slice none 0 0, .slice none 0 0, .string ⟨#[]⟩, .int .i64 0, .int .i64 0, .slice none 0 0, .slice none 0 0, .string ⟨#[]⟩, .string ⟨#[]⟩, .int .i64 0, .string ⟨#[]⟩, .string ⟨#[]⟩, .string ⟨#[]⟩, .int .i64 q.kind, .string q.name, .int .i64 q.version] #[] zrq w2 := hB0
  clear hB0
  go_upto_region 11 with (fail)
  iterate 4 (first | go_values | go_skip | go_guarded | go_step)
  refine storeQ rfl 3 (.tmp 22) (.const (.int .i64 0)) rfl rfl 0 rfl (.int .i64 0) rfl rfl (by kernel_rfl) hB (Nat.lt_of_sub_eq_succ rfl) ?_
  clear hB
  intro w8 hB0
  have hB : BQ w x x y #[.int .i64 0, .int .i64 0, .string ⟨#[]⟩, .int .i64 0, .int .i64 0, .bool false, .slice none 0 0, .slice none 0 0, .slice none 0 0, .string ⟨#[]⟩, .int .i64 0, .int .i64 0, .slice none 0 0, .slice none 0 0, .string ⟨#[]⟩, .string ⟨#[]⟩, .int .i64 0, .string ⟨#[]⟩, .string ⟨#[]⟩, .string ⟨#[]⟩, .int .i64 q.kind, .string q.name, .int .i64 q.version] #[] zrq w8 := hB0
  clear hB0
  go_upto_region 12 with (fail)
  iterate 1 (first | go_values | go_skip | go_guarded | go_step)
  refine wpList_load_row rfl 51 (.tmp 1) rfl x rfl 51 _ (0, 0) _ hB.fz Try.underlying51 rfl size51 ?_
  refine wpList_store_row rfl 51 (.tmp 2) (.tmp 23) rfl y #[.int .i64 0, .int .i64 0, .string ⟨#[]⟩, .int .i64 0, .int .i64 0, .bool false, .slice none 0 0, .slice none 0 0, .slice none 0 0, .string ⟨#[]⟩, .int .i64 0, .int .i64 0, .slice none 0 0, .slice none 0 0, .string ⟨#[]⟩, .string ⟨#[]⟩, .int .i64 0, .string ⟨#[]⟩, .string ⟨#[]⟩, .string ⟨#[]⟩, .int .i64 q.kind, .string q.name, .int .i64 q.version] rfl rfl 51 _ hB.fy size51 rfl (by simp [Value.oneCell', zrq]) ?_
  have HBF := Lib.hid hB
  clear hB
  go_wp2
  refine bodyPost_ret (results_cell_row rfl _ _ y 51 #[.int .i64 0, .int .i64 0, .string ⟨#[]⟩, .int .i64 0, .int .i64 0, .bool false, .slice none 0 0, .slice none 0 0, .slice none 0 0, .string ⟨#[]⟩, .int .i64 0, .int .i64 0, .slice none 0 0, .slice none 0 0, .string ⟨#[]⟩, .string ⟨#[]⟩, .int .i64 0, .string ⟨#[]⟩, .string ⟨#[]⟩, .string ⟨#[]⟩, .int .i64 q.kind, .string q.name, .int .i64 q.version] (0, 0) _ rfl (setRow_heap _ _ _ _ _ _ HBF.out.fy) Try.underlying51 rfl size51) rfl ⟨?_, ?_⟩
  · rw [HBQ.out]; rfl
  · exact HBF.out.b.trans ⟨rfl, rfl, rfl, by rw [size_setRow]; exact Nat.le_refl _, fun j hj => setRow_other _ _ _ _ (by rw [HY.out]; omega)⟩
set_option maxRecDepth 100000 in
set_option maxHeartbeats 4000000 in
theorem bareq_3 (q : Rq) (f l c p i : Sl) (hk : q.op = 3) (w : World) :
    Calls Try.prog 56 #[.agg (rq q f l c p i)] w fun e w' => e = .returned (.agg (rq (bareQ q) f l c p i)) ∧ Below w.heap.size w w' := by
  obtain ⟨w1, hw1, b1, p1, q1⟩ := two_rqs w (rq q f l c p i) zrq
  obtain ⟨x, hx⟩ : ∃ x, x = w.heap.size := ⟨_, rfl⟩
  obtain ⟨y, hy⟩ : ∃ y, y = w.heap.size + 1 := ⟨_, rfl⟩
  rw [← hx] at p1
  rw [← hy] at q1
  have x0 : w1.cell? ⟨x, 0, none⟩ = some (.int .i64 q.op) := by simp [World.cell?, p1, rq]
  have hB0 : BQ w x x y (rq q f l c p i) #[] zrq w1 := ⟨p1, fun h => absurd rfl h, q1, b1, by omega, by omega⟩
  have HB := Lib.hid hB0
  have hk1 : (q.op == 1) = false := by rw [hk]; rfl
  have hk2 : (q.op == 2) = false := by rw [hk]; rfl
  have hk3 : (q.op == 3) = true := by rw [hk]; rfl
  have hk4 : (q.op == 4) = false := by rw [hk]; rfl
  have hk5 : (q.op == 5) = false := by rw [hk]; rfl
  have HW := Lib.hid hw1
  have HY := Lib.hid hy
  have hbq : bareQ q = { q with op := 0, kind := 0, name := ⟨#[]⟩, version := 0 } := by unfold bareQ; rw [if_neg (by omega), if_pos (by omega)]
  have HBQ := Lib.hid hbq
  clear b1 p1 q1 hw1 hB0 hk hbq
  go_enter Try.func56, Try.ntmps56
  go_upto_region 1 with (fail)
  rw [← HW.out, ← hy, ← hx]
  clear hx hy
  go_upto_region 6 with (fail)
  clear x0
  have hB := HB.out
  iterate 4 (first | go_values | go_skip | go_guarded | go_step)
  refine storeQ rfl 3 (.tmp 12) (.const (.int .i64 0)) rfl rfl 20 rfl (.int .i64 0) rfl rfl (by kernel_rfl) hB (Nat.lt_of_sub_eq_succ rfl) ?_
  clear hB
  intro w2 hB0
  have hB : BQ w x x y #[.int .i64 q.op, .int .i64 q.ob.kind, .string q.ob.name, .int .i64 q.ob.uid, .int .i64 q.ob.version, .bool q.ob.deleting, .slice f.A q.ob.fins.length f.c, .slice l.A q.ob.labels.length l.c, .slice c.A q.ob.cidrs.length c.c, .string q.ob.status, .int .i64 q.ob.type, .int .i64 q.ob.policy, .slice p.A q.ob.fams.length p.c, .slice i.A q.ob.ips.length i.c, .string q.ob.v4, .string q.ob.v6, .int .i64 q.ob.bits, .string q.ob.sel, .string q.ob.about, .string q.ob.reason, .int .i64 0, .string q.name, .int .i64 q.version] #[] zrq w2 := hB0
  clear hB0
  iterate 3 (first | go_values | go_skip | go_guarded | go_step)
  refine storeQ rfl 9 (.tmp 13) (.const (.string ⟨#[]⟩)) rfl rfl 21 rfl (.string ⟨#[]⟩) rfl rfl (by kernel_rfl) hB (Nat.lt_of_sub_eq_succ rfl) ?_
  clear hB
  intro w3 hB0
  have hB : BQ w x x y #[.int .i64 q.op, .int .i64 q.ob.kind, .string q.ob.name, .int .i64 q.ob.uid, .int .i64 q.ob.version, .bool q.ob.deleting, .slice f.A q.ob.fins.length f.c, .slice l.A q.ob.labels.length l.c, .slice c.A q.ob.cidrs.length c.c, .string q.ob.status, .int .i64 q.ob.type, .int .i64 q.ob.policy, .slice p.A q.ob.fams.length p.c, .slice i.A q.ob.ips.length i.c, .string q.ob.v4, .string q.ob.v6, .int .i64 q.ob.bits, .string q.ob.sel, .string q.ob.about, .string q.ob.reason, .int .i64 0, .string ⟨#[]⟩, .int .i64 q.version] #[] zrq w3 := hB0
  clear hB0
  iterate 3 (first | go_values | go_skip | go_guarded | go_step)
  refine storeQ rfl 3 (.tmp 14) (.const (.int .i64 0)) rfl rfl 22 rfl (.int .i64 0) rfl rfl (by kernel_rfl) hB (Nat.lt_of_sub_eq_succ rfl) ?_
  clear hB
  intro w4 hB0
  have hB : BQ w x x y #[.int .i64 q.op, .int .i64 q.ob.kind, .string q.ob.name, .int .i64 q.ob.uid, .int .i64 q.ob.version, .bool q.ob.deleting, .slice f.A q.ob.fins.length f.c, .slice l.A q.ob.labels.length l.c, .slice c.A q.ob.cidrs.length c.c, .string q.ob.status, .int .i64 q.ob.type, .int .i64 q.ob.policy, .slice p.A q.ob.fams.length p.c, .slice i.A q.ob.ips.length i.c, .string q.ob.v4, .string q.ob.v6, .int .i64 q.ob.bits, .string q.ob.sel, .string q.ob.about, .string q.ob.reason, .int .i64 0, .string ⟨#[]⟩, .int .i64 0] #[] zrq w4 := hB0
  clear hB0
  go_upto_region 11 with (fail)
  iterate 4 (first | go_values | go_skip | go_guarded | go_step)
  refine storeQ rfl 3 (.tmp 22) (.const (.int .i64 0)) rfl rfl 0 rfl (.int .i64 0) rfl rfl (by kernel_rfl) hB (Nat.lt_of_sub_eq_succ rfl) ?_
  clear hB
  intro w8 hB0
  have hB : BQ w x x y #[.int .i64 0, .int .i64 q.ob.kind, .string q.ob.name, .int .i64 q.ob.uid, .int .i64 q.ob.version, .bool q.ob.deleting, .slice f.A q.ob.fins.length f.c, .slice l.A q.ob.labels.length l.c, .slice c.A q.ob.cidrs.length c.c, .string q.ob.status, .int .i64 q.ob.type, .int .i64 q.ob.policy, .slice p.A q.ob.fams.length p.c, .slice i.A q.ob.ips.length i.c, .string q.ob.v4, .string q.ob.v6, .int .i64 q.ob.bits, .string q.ob.sel, .string q.ob.about, .string q.ob.reason, .int .i64 0, .string ⟨#[]⟩, .int .i64 0] #[] zrq w8 := hB0
  clear hB0
  go_upto_region 12 with (fail)
  iterate 1 (first | go_values | go_skip | go_guarded | go_step)
  refine wpList_load_row rfl 51 (.tmp 1) rfl x rfl 51 _ (0, 0) _ hB.fz Try.underlying51 rfl size51 ?_
  refine wpList_store_row rfl 51 (.tmp 2) (.tmp 23) rfl y #[.int .i64 0, .int .i64 q.ob.kind, .string q.ob.name, .int .i64 q.ob.uid, .int .i64 q.ob.version, .bool q.ob.deleting, .slice f.A q.ob.fins.length f.c, .slice l.A q.ob.labels.length l.c, .slice c.A q.ob.cidrs.length c.c, .string q.ob.status, .int .i64 q.ob.type, .int .i64 q.ob.policy, .slice p.A q.ob.fams.length p.c, .slice i.A q.ob.ips.length i.c, .string q.ob.v4, .string q.ob.v6, .int .i64 q.ob.bits, .string q.ob.sel, .string q.ob.about, .string q.ob.reason, .int .i64 0, .string ⟨#[]⟩, .int .i64 0] rfl rfl 51 _ hB.fy size51 rfl (by simp [Value.oneCell', zrq]) ?_
  have HBF := Lib.hid hB
  clear hB
  go_wp2
  refine bodyPost_ret (results_cell_row rfl _ _ y 51 #[.int .i64 0, .int .i64 q.ob.kind, .string q.ob.name, .int .i64 q.ob.uid, .int .i64 q.ob.version, .bool q.ob.deleting, .slice f.A q.ob.fins.length f.c, .slice l.A q.ob.labels.length l.c, .slice c.A q.ob.cidrs.length c.c, .string q.ob.status, .int .i64 q.ob.type, .int .i64 q.ob.policy, .slice p.A q.ob.fams.length p.c, .slice i.A q.ob.ips.length i.c, .string q.ob.v4, .string q.ob.v6, .int .i64 q.ob.bits, .string q.ob.sel, .string q.ob.about, .string q.ob.reason, .int .i64 0, .string ⟨#[]⟩, .int .i64 0] (0, 0) _ rfl (setRow_heap _ _ _ _ _ _ HBF.out.fy) Try.underlying51 rfl size51) rfl ⟨?_, ?_⟩
  · rw [HBQ.out]; rfl
  · exact HBF.out.b.trans ⟨rfl, rfl, rfl, by rw [size_setRow]; exact Nat.le_refl _, fun j hj => setRow_other _ _ _ _ (by rw [HY.out]; omega)⟩
set_option maxRecDepth 100000 in
set_option maxHeartbeats 4000000 in
theorem bareq_4 (q : Rq) (f l c p i : Sl) (hk : q.op = 4) (w : World) :
    Calls Try.prog 56 #[.agg (rq q f l c p i)] w fun e w' => e = .returned (.agg (rq (bareQ q) f l c p i)) ∧ Below w.heap.size w w' := by
  obtain ⟨w1, hw1, b1, p1, q1⟩ := two_rqs w (rq q f l c p i) zrq
  obtain ⟨x, hx⟩ : ∃ x, x = w.heap.size := ⟨_, rfl⟩
  obtain ⟨y, hy⟩ : ∃ y, y = w.heap.size + 1 := ⟨_, rfl⟩
  rw [← hx] at p1
  rw [← hy] at q1
  have x0 : w1.cell? ⟨x, 0, none⟩ = some (.int .i64 q.op) := by simp [World.cell?, p1, rq]
  have hB0 : BQ w x x y (rq q f l c p i) #[] zrq w1 := ⟨p1, fun h => absurd rfl h, q1, b1, by omega, by omega⟩
  have HB := Lib.hid hB0
  have hk1 : (q.op == 1) = false := by rw [hk]; rfl
  have hk2 : (q.op == 2) = false := by rw [hk]; rfl
  have hk3 : (q.op == 3) = false := by rw [hk]; rfl
  have hk4 : (q.op == 4) = true := by rw [hk]; rfl
  have hk5 : (q.op == 5) = false := by rw [hk]; rfl
  have HW := Lib.hid hw1
  have HY := Lib.hid hy
  have hbq : bareQ q = { q with op := 0, kind := 0, name := ⟨#[]⟩ } := by unfold bareQ; rw [if_neg (by omega), if_neg (by omega), if_pos (by omega)]
  have HBQ := Lib.hid hbq
  clear b1 p1 q1 hw1 hB0 hk hbq
  go_enter Try.func56, Try.ntmps56
  go_upto_region 1 with (fail)
  rw [← HW.out, ← hy, ← hx]
  clear hx hy
  go_upto_region 8 with (fail)
  clear x0
  have hB := HB.out
  iterate 4 (first | go_values | go_skip | go_guarded | go_step)
  refine storeQ rfl 3 (.tmp 17) (.const (.int .i64 0)) rfl rfl 20 rfl (.int .i64 0) rfl rfl (by kernel_rfl) hB (Nat.lt_of_sub_eq_succ rfl) ?_
  clear hB
  intro w2 hB0
  have hB : BQ w x x y #[.int .i64 q.op, .int .i64 q.ob.kind, .string q.ob.name, .int .i64 q.ob.uid, .int .i64 q.ob.version, .bool q.ob.deleting, .slice f.A q.ob.fins.length f.c, .slice l.A q.ob.labels.length l.c, .slice c.A q.ob.cidrs.length c.c, .string q.ob.status, .int .i64 q.ob.type, .int .i64 q.ob.policy, .slice p.A q.ob.fams.length p.c, .slice i.A q.ob.ips.length i.c, .string q.ob.v4, .string q.ob.v6, .int .i64 q.ob.bits, .string q.ob.sel, .string q.ob.about, .string q.ob.reason, .int .i64 0, .string q.name, .int .i64 q.version] #[] zrq w2 := hB0
  clear hB0
  iterate 3 (first | go_values | go_skip | go_guarded | go_step)
  refine storeQ rfl 9 (.tmp 18) (.const (.string ⟨#[]⟩)) rfl rfl 21 rfl (.string ⟨#[]⟩) rfl rfl (by kernel_rfl) hB (Nat.lt_of_sub_eq_succ rfl) ?_
  clear hB
  intro w3 hB0
  have hB : BQ w x x y #[.int .i64 q.op, .int .i64 q.ob.kind, .string q.ob.name, .int .i64 q.ob.uid, .int .i64 q.ob.version, .bool q.ob.deleting, .slice f.A q.ob.fins.length f.c, .slice l.A q.ob.labels.length l.c, .slice c.A q.ob.cidrs.length c.c, .string q.ob.status, .int .i64 q.ob.type, .int .i64 q.ob.policy, .slice p.A q.ob.fams.length p.c, .slice i.A q.ob.ips.length i.c, .string q.ob.v4, .string q.ob.v6, .int .i64 q.ob.bits, .string q.ob.sel, .string q.ob.about, .string q.ob.reason, .int .i64 0, .string ⟨#[]⟩, .int .i64 q.version] #[] zrq w3 := hB0
  clear hB0
  go_upto_region 11 with (fail)
  iterate 4 (first | go_values | go_skip | go_guarded | go_step)
  refine storeQ rfl 3 (.tmp 22) (.const (.int .i64 0)) rfl rfl 0 rfl (.int .i64 0) rfl rfl (by kernel_rfl) hB (Nat.lt_of_sub_eq_succ rfl) ?_
  clear hB
  intro w8 hB0
  have hB : BQ w x x y #[.int .i64 0, .int .i64 q.ob.kind, .string q.ob.name, .int .i64 q.ob.uid, .int .i64 q.ob.version, .bool q.ob.deleting, .slice f.A q.ob.fins.length f.c, .slice l.A q.ob.labels.length l.c, .slice c.A q.ob.cidrs.length c.c, .string q.ob.status, .int .i64 q.ob.type, .int .i64 q.ob.policy, .slice p.A q.ob.fams.length p.c, .slice i.A q.ob.ips.length i.c, .string q.ob.v4, .string q.ob.v6, .int .i64 q.ob.bits, .string q.ob.sel, .string q.ob.about, .string q.ob.reason, .int .i64 0, .string ⟨#[]⟩, .int .i64 q.version] #[] zrq w8 := hB0
  clear hB0
  go_upto_region 12 with (fail)
  iterate 1 (first | go_values | go_skip | go_guarded | go_step)
  refine wpList_load_row rfl 51 (.tmp 1) rfl x rfl 51 _ (0, 0) _ hB.fz Try.underlying51 rfl size51 ?_
  refine wpList_store_row rfl 51 (.tmp 2) (.tmp 23) rfl y #[.int .i64 0, .int .i64 q.ob.kind, .string q.ob.name, .int .i64 q.ob.uid, .int .i64 q.ob.version, .bool q.ob.deleting, .slice f.A q.ob.fins.length f.c, .slice l.A q.ob.labels.length l.c, .slice c.A q.ob.cidrs.length c.c, .string q.ob.status, .int .i64 q.ob.type, .int .i64 q.ob.policy, .slice p.A q.ob.fams.length p.c, .slice i.A q.ob.ips.length i.c, .string q.ob.v4, .string q.ob.v6, .int .i64 q.ob.bits, .string q.ob.sel, .string q.ob.about, .string q.ob.reason, .int .i64 0, .string ⟨#[]⟩, .int .i64 q.version] rfl rfl 51 _ hB.fy size51 rfl (by simp [Value.oneCell', zrq]) ?_
  have HBF := Lib.hid hB
  clear hB
  go_wp2
  refine bodyPost_ret (results_cell_row rfl _ _ y 51 #[.int .i64 0, .int .i64 q.ob.kind, .string q.ob.name, .int .i64 q.ob.uid, .int .i64 q.ob.version, .bool q.ob.deleting, .slice f.A q.ob.fins.length f.c, .slice l.A q.ob.labels.length l.c, .slice c.A q.ob.cidrs.length c.c, .string q.ob.status, .int .i64 q.ob.type, .int .i64 q.ob.policy, .slice p.A q.ob.fams.length p.c, .slice i.A q.ob.ips.length i.c, .string q.ob.v4, .string q.ob.v6, .int .i64 q.ob.bits, .string q.ob.sel, .string q.ob.about, .string q.ob.reason, .int .i64 0, .string ⟨#[]⟩, .int .i64 q.version] (0, 0) _ rfl (setRow_heap _ _ _ _ _ _ HBF.out.fy) Try.underlying51 rfl size51) rfl ⟨?_, ?_⟩
  · rw [HBQ.out]; rfl
  · exact HBF.out.b.trans ⟨rfl, rfl, rfl, by rw [size_setRow]; exact Nat.le_refl _, fun j hj => setRow_other _ _ _ _ (by rw [HY.out]; omega)⟩
set_option maxRecDepth 100000 in
set_option maxHeartbeats 4000000 in
theorem bareq_5 (q : Rq) (f l c p i : Sl) (hk : q.op = 5) (w : World) :
    Calls Try.prog 56 #[.agg (rq q f l c p i)] w fun e w' => e = .returned (.agg (rq (bareQ q) f l c p i)) ∧ Below w.heap.size w w' := by
  obtain ⟨w1, hw1, b1, p1, q1⟩ := two_rqs w (rq q f l c p i) zrq
  obtain ⟨x, hx⟩ : ∃ x, x = w.heap.size := ⟨_, rfl⟩
  obtain ⟨y, hy⟩ : ∃ y, y = w.heap.size + 1 := ⟨_, rfl⟩
  rw [← hx] at p1
  rw [← hy] at q1
  have x0 : w1.cell? ⟨x, 0, none⟩ = some (.int .i64 q.op) := by simp [World.cell?, p1, rq]
  have hB0 : BQ w x x y (rq q f l c p i) #[] zrq w1 := ⟨p1, fun h => absurd rfl h, q1, b1, by omega, by omega⟩
  have HB := Lib.hid hB0
  have hk1 : (q.op == 1) = false := by rw [hk]; rfl
  have hk2 : (q.op == 2) = false := by rw [hk]; rfl
  have hk3 : (q.op == 3) = false := by rw [hk]; rfl
  have hk4 : (q.op == 4) = false := by rw [hk]; rfl
  have hk5 : (q.op == 5) = true := by rw [hk]; rfl
  have HW := Lib.hid hw1
  have HY := Lib.hid hy
  have hbq : bareQ q = { q with op := 0, kind := 0 } := by unfold bareQ; rw [if_neg (by omega), if_neg (by omega), if_neg (by omega)]
  have HBQ := Lib.hid hbq
  clear b1 p1 q1 hw1 hB0 hk hbq
  go_enter Try.func56, Try.ntmps56
  go_upto_region 1 with (fail)
  rw [← HW.out, ← hy, ← hx]
  clear hx hy
  go_upto_region 10 with (fail)
  clear x0
  have hB := HB.out
  iterate 4 (first | go_values | go_skip | go_guarded | go_step)
  refine storeQ rfl 3 (.tmp 21) (.const (.int .i64 0)) rfl rfl 20 rfl (.int .i64 0) rfl rfl (by kernel_rfl) hB (Nat.lt_of_sub_eq_succ rfl) ?_
  clear hB
  intro w2 hB0
  have hB : BQ w x x y #[.int .i64 q.op, .int .i64 q.ob.kind, .string q.ob.name, .int .i64 q.ob.uid, .int .i64 q.ob.version, .bool q.ob.deleting, .slice f.A q.ob.fins.length f.c, .slice l.A q.ob.labels.length l.c, .slice c.A q.ob.cidrs.length c.c, .string q.ob.status, .int .i64 q.ob.type, .int .i64 q.ob.policy, .slice p.A q.ob.fams.length p.c, .slice i.A q.ob.ips.length i.c, .string q.ob.v4, .string q.ob.v6, .int .i64 q.ob.bits, .string q.ob.sel, .string q.ob.about, .string q.ob.reason, .int .i64 0, .string q.name, .int .i64 q.version] #[] zrq w2 := hB0
  clear hB0
  go_upto_region 11 with (fail)
  iterate 4 (first | go_values | go_skip | go_guarded | go_step)
  refine storeQ rfl 3 (.tmp 22) (.const (.int .i64 0)) rfl rfl 0 rfl (.int .i64 0) rfl rfl (by kernel_rfl) hB (Nat.lt_of_sub_eq_succ rfl) ?_
  clear hB
  intro w8 hB0
  have hB : BQ w x x y #[.int .i64 0, .int .i64 q.ob.kind, .string q.ob.name, .int .i64 q.ob.uid, .int .i64 q.ob.version, .bool q.ob.deleting, .slice f.A q.ob.fins.length f.c, .slice l.A q.ob.labels.length l.c, .slice c.A q.ob.cidrs.length c.c, .string q.ob.status, .int .i64 q.ob.type, .int .i64 q.ob.policy, .slice p.A q.ob.fams.length p.c, .slice i.A q.ob.ips.length i.c, .string q.ob.v4, .string q.ob.v6, .int .i64 q.ob.bits, .string q.ob.sel, .string q.ob.about, .string q.ob.reason, .int .i64 0, .string q.name, .int .i64 q.version] #[] zrq w8 := hB0
  clear hB0
  go_upto_region 12 with (fail)
  iterate 1 (first | go_values | go_skip | go_guarded | go_step)
  refine wpList_load_row rfl 51 (.tmp 1) rfl x rfl 51 _ (0, 0) _ hB.fz Try.underlying51 rfl size51 ?_
  refine wpList_store_row rfl 51 (.tmp 2) (.tmp 23) rfl y #[.int .i64 0, .int .i64 q.ob.kind, .string q.ob.name, .int .i64 q.ob.uid, .int .i64 q.ob.version, .bool q.ob.deleting, .slice f.A q.ob.fins.length f.c, .slice l.A q.ob.labels.length l.c, .slice c.A q.ob.cidrs.length c.c, .string q.ob.status, .int .i64 q.ob.type, .int .i64 q.ob.policy, .slice p.A q.ob.fams.length p.c, .slice i.A q.ob.ips.length i.c, .string q.ob.v4, .string q.ob.v6, .int .i64 q.ob.bits, .string q.ob.sel, .string q.ob.about, .string q.ob.reason, .int .i64 0, .string q.name, .int .i64 q.version] rfl rfl 51 _ hB.fy size51 rfl (by simp [Value.oneCell', zrq]) ?_
  have HBF := Lib.hid hB
  clear hB
  go_wp2
  refine bodyPost_ret (results_cell_row rfl _ _ y 51 #[.int .i64 0, .int .i64 q.ob.kind, .string q.ob.name, .int .i64 q.ob.uid, .int .i64 q.ob.version, .bool q.ob.deleting, .slice f.A q.ob.fins.length f.c, .slice l.A q.ob.labels.length l.c, .slice c.A q.ob.cidrs.length c.c, .string q.ob.status, .int .i64 q.ob.type, .int .i64 q.ob.policy, .slice p.A q.ob.fams.length p.c, .slice i.A q.ob.ips.length i.c, .string q.ob.v4, .string q.ob.v6, .int .i64 q.ob.bits, .string q.ob.sel, .string q.ob.about, .string q.ob.reason, .int .i64 0, .string q.name, .int .i64 q.version] (0, 0) _ rfl (setRow_heap _ _ _ _ _ _ HBF.out.fy) Try.underlying51 rfl size51) rfl ⟨?_, ?_⟩
  · rw [HBQ.out]; rfl
  · exact HBF.out.b.trans ⟨rfl, rfl, rfl, by rw [size_setRow]; exact Nat.le_refl _, fun j hj => setRow_other _ _ _ _ (by rw [HY.out]; omega)⟩
end Go.Proofs.Ytolndeolehkjoaa
namespace Go.Proofs.Ytolndeolehkjoaa
set_option linter.unusedVariables false
set_option linter.unusedSimpArgs false
open Go.RowKit CodP
theorem bel_allocRow51 (w : World) (a b : Array Value) : Below w.heap.size w ((w.alloc (.cells a 51)).setRow w.heap.size b) := bel_allocRow w a b 51
set_option maxRecDepth 100000 in
set_option maxHeartbeats 4000000 in
theorem onlyq_1 (q : Rq) (f l c p i : Sl) (hk : q.op = 1) (w : World) :
    Calls Try.prog 29 #[.agg (rq q f l c p i)] w fun e w' => e = .returned (.agg (rq (onlyQ q) f l c p i)) ∧ Below w.heap.size w w' := by
  obtain ⟨w1, hw1, b1, p1, q1⟩ := two_rqs w (rq q f l c p i) zrq
  obtain ⟨x, hx⟩ : ∃ x, x = w.heap.size := ⟨_, rfl⟩
  obtain ⟨y, hy⟩ : ∃ y, y = w.heap.size + 1 := ⟨_, rfl⟩
  rw [← hx] at p1
  rw [← hy] at q1
  have x0 : w1.cell? ⟨x, 0, none⟩ = some (.int .i64 1) := by simp [World.cell?, p1, rq, hk]
  obtain ⟨z, hz⟩ : ∃ z, z = w1.heap.size := ⟨_, rfl⟩
  have b2 := bel_allocRow51 w1 zrq #[.int .i64 1, .int .i64 0, .string ⟨#[]⟩, .int .i64 0, .int .i64 0, .bool false, .slice none 0 0, .slice none 0 0, .slice none 0 0, .string ⟨#[]⟩, .int .i64 0, .int .i64 0, .slice none 0 0, .slice none 0 0, .string ⟨#[]⟩, .string ⟨#[]⟩, .int .i64 0, .string ⟨#[]⟩, .string ⟨#[]⟩, .string ⟨#[]⟩, .int .i64 0, .string ⟨#[]⟩, .int .i64 0]
  obtain ⟨w2, hw2⟩ : ∃ w2, w2 = (w1.alloc (.cells zrq 51)).setRow w1.heap.size #[.int .i64 1, .int .i64 0, .string ⟨#[]⟩, .int .i64 0, .int .i64 0, .bool false, .slice none 0 0, .slice none 0 0, .slice none 0 0, .string ⟨#[]⟩, .int .i64 0, .int .i64 0, .slice none 0 0, .slice none 0 0, .string ⟨#[]⟩, .string ⟨#[]⟩, .int .i64 0, .string ⟨#[]⟩, .string ⟨#[]⟩, .string ⟨#[]⟩, .int .i64 0, .string ⟨#[]⟩, .int .i64 0] := ⟨_, rfl⟩
  rw [← hw2] at b2
  have f2 : w2.heap[z]? = some (.cells #[.int .i64 1, .int .i64 0, .string ⟨#[]⟩, .int .i64 0, .int .i64 0, .bool false, .slice none 0 0, .slice none 0 0, .slice none 0 0, .string ⟨#[]⟩, .int .i64 0, .int .i64 0, .slice none 0 0, .slice none 0 0, .string ⟨#[]⟩, .string ⟨#[]⟩, .int .i64 0, .string ⟨#[]⟩, .string ⟨#[]⟩, .string ⟨#[]⟩, .int .i64 0, .string ⟨#[]⟩, .int .i64 0] 51 (0, 0)) := by rw [hw2, hz]; exact setRow_heap _ _ _ _ _ _ (G.heap_new _ _)
  have hxz : x < w1.heap.size := (Array.getElem?_eq_some_iff.1 p1).1
  have hyz : y < w1.heap.size := (Array.getElem?_eq_some_iff.1 q1).1
  have hB0 : BQ w z x y #[.int .i64 1, .int .i64 0, .string ⟨#[]⟩, .int .i64 0, .int .i64 0, .bool false, .slice none 0 0, .slice none 0 0, .slice none 0 0, .string ⟨#[]⟩, .int .i64 0, .int .i64 0, .slice none 0 0, .slice none 0 0, .string ⟨#[]⟩, .string ⟨#[]⟩, .int .i64 0, .string ⟨#[]⟩, .string ⟨#[]⟩, .string ⟨#[]⟩, .int .i64 0, .string ⟨#[]⟩, .int .i64 0] (rq q f l c p i) zrq w2 := ⟨f2, fun _ => (b2.block x hxz).trans p1, (b2.block y hyz).trans q1, b1.trans (belowLe b1.size b2), by omega, by omega⟩
  have HZX := Lib.hid (show z ≠ x by omega)
  have g0 : ∀ (cs ys : Array Value) (V : World), BQ w z x y cs (rq q f l c p i) ys V → V.cell? ⟨x, 0, none⟩ = some (.int .i64 1) := fun _ _ V h => by have e := h.fx HZX.out; simp [World.cell?, e, rq, hk]
  have g20 : ∀ (cs ys : Array Value) (V : World), BQ w z x y cs (rq q f l c p i) ys V → V.cell? ⟨x, 20, none⟩ = some (.int .i64 q.kind) := fun _ _ V h => by have e := h.fx HZX.out; simp [World.cell?, e, rq]
  have g21 : ∀ (cs ys : Array Value) (V : World), BQ w z x y cs (rq q f l c p i) ys V → V.cell? ⟨x, 21, none⟩ = some (.string q.name) := fun _ _ V h => by have e := h.fx HZX.out; simp [World.cell?, e, rq]
  have g22 : ∀ (cs ys : Array Value) (V : World), BQ w z x y cs (rq q f l c p i) ys V → V.cell? ⟨x, 22, none⟩ = some (.int .i64 q.version) := fun _ _ V h => by have e := h.fx HZX.out; simp [World.cell?, e, rq]
  have hbq : onlyQ q = ⟨1, q.ob, 0, ⟨#[]⟩, 0⟩ := by
    unfold onlyQ
    rw [if_pos (by omega)]
    rw [hk]
    rfl
  have HBQ := Lib.hid hbq
  have HW := Lib.hid hw1
  have HW2 := Lib.hid hw2
  have HY := Lib.hid hy
  have HB := Lib.hid hB0
  have G0 := Lib.hid g0
  have G20 := Lib.hid g20
  have G21 := Lib.hid g21
  have G22 := Lib.hid g22
  clear b1 b2 p1 q1 hw1 hw2 f2 hxz hyz hB0 hk hbq g0 g20 g21 g22
  go_enter Try.func29, Try.ntmps29
  go_upto_region 1 with (fail)
  rw [← HW.out, ← hy, ← hx]
  clear hx hy
  iterate 13 (first | go_values | go_skip | go_guarded | go_step)
  refine wpList_store_row rfl 51 (.tmp 3) (.tmp 6) rfl _ #[.int .i64 1, .int .i64 0, .string ⟨#[]⟩, .int .i64 0, .int .i64 0, .bool false, .slice none 0 0, .slice none 0 0, .slice none 0 0, .string ⟨#[]⟩, .int .i64 0, .int .i64 0, .slice none 0 0, .slice none 0 0, .string ⟨#[]⟩, .string ⟨#[]⟩, .int .i64 0, .string ⟨#[]⟩, .string ⟨#[]⟩, .string ⟨#[]⟩, .int .i64 0, .string ⟨#[]⟩, .int .i64 0] rfl rfl 51 _ (G.heap_new _ _) size51 rfl (by simp [Value.oneCell', zrq]) ?_
  rw [← HW2.out, ← hz]
  clear hz x0
  have hB := HB.out
  have c0 := G0.out _ _ _ hB
  go_upto_region 3 with (fail)
  clear c0
  iterate 4 (first | go_values | go_skip | go_guarded | go_step)
  refine wpList_load_elem rfl (.tmp 15) rfl x 1 rfl ⟨q.ob, f, l, c, p, i⟩ (rq_mid (hB.fx HZX.out)) ?_
  try simp only [Act.put, List.setIfInBounds_toArray, List.set_cons_zero, List.set_cons_succ]
  iterate 3 (first | go_values | go_skip | go_guarded | go_step)
  refine storeQob (q := ⟨1, zeroOb, 0, ⟨#[]⟩, 0⟩) (f := Sl0) (l := Sl0) (c := Sl0) (p := Sl0) (i := Sl0) rfl (.tmp 17) (.tmp 16) rfl rfl rfl ⟨q.ob, f, l, c, p, i⟩ rfl hB ?_
  clear hB
  intro w3 hB0
  have hB : BQ w z x y #[.int .i64 1, .int .i64 q.ob.kind, .string q.ob.name, .int .i64 q.ob.uid, .int .i64 q.ob.version, .bool q.ob.deleting, .slice f.A q.ob.fins.length f.c, .slice l.A q.ob.labels.length l.c, .slice c.A q.ob.cidrs.length c.c, .string q.ob.status, .int .i64 q.ob.type, .int .i64 q.ob.policy, .slice p.A q.ob.fams.length p.c, .slice i.A q.ob.ips.length i.c, .string q.ob.v4, .string q.ob.v6, .int .i64 q.ob.bits, .string q.ob.sel, .string q.ob.about, .string q.ob.reason, .int .i64 0, .string ⟨#[]⟩, .int .i64 0] (rq q f l c p i) zrq w3 := hB0
  clear hB0
  have c0 := G0.out _ _ _ hB
  go_upto_region 10 with (fail)
  clear c0
  iterate 1 (first | go_values | go_skip | go_guarded | go_step)
  refine wpList_load_row rfl 51 (.tmp 3) rfl z rfl 51 _ (0, 0) _ hB.fz Try.underlying51 rfl size51 ?_
  refine wpList_store_row rfl 51 (.tmp 2) (.tmp 46) rfl y #[.int .i64 1, .int .i64 q.ob.kind, .string q.ob.name, .int .i64 q.ob.uid, .int .i64 q.ob.version, .bool q.ob.deleting, .slice f.A q.ob.fins.length f.c, .slice l.A q.ob.labels.length l.c, .slice c.A q.ob.cidrs.length c.c, .string q.ob.status, .int .i64 q.ob.type, .int .i64 q.ob.policy, .slice p.A q.ob.fams.length p.c, .slice i.A q.ob.ips.length i.c, .string q.ob.v4, .string q.ob.v6, .int .i64 q.ob.bits, .string q.ob.sel, .string q.ob.about, .string q.ob.reason, .int .i64 0, .string ⟨#[]⟩, .int .i64 0] rfl rfl 51 _ hB.fy size51 rfl (by simp [Value.oneCell', zrq]) ?_
  have HBF := Lib.hid hB
  clear hB
  go_wp2
  refine bodyPost_ret (results_cell_row rfl _ _ y 51 #[.int .i64 1, .int .i64 q.ob.kind, .string q.ob.name, .int .i64 q.ob.uid, .int .i64 q.ob.version, .bool q.ob.deleting, .slice f.A q.ob.fins.length f.c, .slice l.A q.ob.labels.length l.c, .slice c.A q.ob.cidrs.length c.c, .string q.ob.status, .int .i64 q.ob.type, .int .i64 q.ob.policy, .slice p.A q.ob.fams.length p.c, .slice i.A q.ob.ips.length i.c, .string q.ob.v4, .string q.ob.v6, .int .i64 q.ob.bits, .string q.ob.sel, .string q.ob.about, .string q.ob.reason, .int .i64 0, .string ⟨#[]⟩, .int .i64 0] (0, 0) _ rfl (setRow_heap _ _ _ _ _ _ HBF.out.fy) Try.underlying51 rfl size51) rfl ⟨?_, ?_⟩
  · rw [HBQ.out]; rfl
  · exact HBF.out.b.trans ⟨rfl, rfl, rfl, by rw [size_setRow]; exact Nat.le_refl _, fun j hj => setRow_other _ _ _ _ (by rw [HY.out]; omega)⟩
set_option maxRecDepth 100000 in
set_option maxHeartbeats 4000000 in
theorem onlyq_2 (q : Rq) (f l c p i : Sl) (hk : q.op = 2) (w : World) :
    Calls Try.prog 29 #[.agg (rq q f l c p i)] w fun e w' => e = .returned (.agg (rq (onlyQ q) f l c p i)) ∧ Below w.heap.size w w' := by
  obtain ⟨w1, hw1, b1, p1, q1⟩ := two_rqs w (rq q f l c p i) zrq
  obtain ⟨x, hx⟩ : ∃ x, x = w.heap.size := ⟨_, rfl⟩
  obtain ⟨y, hy⟩ : ∃ y, y = w.heap.size + 1 := ⟨_, rfl⟩
  rw [← hx] at p1
  rw [← hy] at q1
  have x0 : w1.cell? ⟨x, 0, none⟩ = some (.int .i64 2) := by simp [World.cell?, p1, rq, hk]
  obtain ⟨z, hz⟩ : ∃ z, z = w1.heap.size := ⟨_, rfl⟩
  have b2 := bel_allocRow51 w1 zrq #[.int .i64 2, .int .i64 0, .string ⟨#[]⟩, .int .i64 0, .int .i64 0, .bool false, .slice none 0 0, .slice none 0 0, .slice none 0 0, .string ⟨#[]⟩, .int .i64 0, .int .i64 0, .slice none 0 0, .slice none 0 0, .string ⟨#[]⟩, .string ⟨#[]⟩, .int .i64 0, .string ⟨#[]⟩, .string ⟨#[]⟩, .string ⟨#[]⟩, .int .i64 0, .string ⟨#[]⟩, .int .i64 0]
  obtain ⟨w2, hw2⟩ : ∃ w2, w2 = (w1.alloc (.cells zrq 51)).setRow w1.heap.size #[.int .i64 2, .int .i64 0, .string ⟨#[]⟩, .int .i64 0, .int .i64 0, .bool false, .slice none 0 0, .slice none 0 0, .slice none 0 0, .string ⟨#[]⟩, .int .i64 0, .int .i64 0, .slice none 0 0, .slice none 0 0, .string ⟨#[]⟩, .string ⟨#[]⟩, .int .i64 0, .string ⟨#[]⟩, .string ⟨#[]⟩, .string ⟨#[]⟩, .int .i64 0, .string ⟨#[]⟩, .int .i64 0] := ⟨_, rfl⟩
  rw [← hw2] at b2
  have f2 : w2.heap[z]? = some (.cells #[.int .i64 2, .int .i64 0, .string ⟨#[]⟩, .int .i64 0, .int .i64 0, .bool false, .slice none 0 0, .slice none 0 0, .slice none 0 0, .string ⟨#[]⟩, .int .i64 0, .int .i64 0, .slice none 0 0, .slice none 0 0, .string ⟨#[]⟩, .string ⟨#[]⟩, .int .i64 0, .string ⟨#[]⟩, .string ⟨#[]⟩, .string ⟨#[]⟩, .int .i64 0, .string ⟨#[]⟩, .int .i64 0] 51 (0, 0)) := by rw [hw2, hz]; exact setRow_heap _ _ _ _ _ _ (G.heap_new _ _)
  have hxz : x < w1.heap.size := (Array.getElem?_eq_some_iff.1 p1).1
  have hyz : y < w1.heap.size := (Array.getElem?_eq_some_iff.1 q1).1
  have hB0 : BQ w z x y #[.int .i64 2, .int .i64 0, .string ⟨#[]⟩, .int .i64 0, .int .i64 0, .bool false, .slice none 0 0, .slice none 0 0, .slice none 0 0, .string ⟨#[]⟩, .int .i64 0, .int .i64 0, .slice none 0 0, .slice none 0 0, .string ⟨#[]⟩, .string ⟨#[]⟩, .int .i64 0, .string ⟨#[]⟩, .string ⟨#[]⟩, .string ⟨#[]⟩, .int .i64 0, .string ⟨#[]⟩, .int .i64 0] (rq q f l c p i) zrq w2 := ⟨f2, fun _ => (b2.block x hxz).trans p1, (b2.block y hyz).trans q1, b1.trans (belowLe b1.size b2), by omega, by omega⟩
  have HZX := Lib.hid (show z ≠ x by omega)
  have g0 : ∀ (cs ys : Array Value) (V : World), BQ w z x y cs (rq q f l c p i) ys V → V.cell? ⟨x, 0, none⟩ = some (.int .i64 2) := fun _ _ V h => by have e := h.fx HZX.out; simp [World.cell?, e, rq, hk]
  have g20 : ∀ (cs ys : Array Value) (V : World), BQ w z x y cs (rq q f l c p i) ys V → V.cell? ⟨x, 20, none⟩ = some (.int .i64 q.kind) := fun _ _ V h => by have e := h.fx HZX.out; simp [World.cell?, e, rq]
  have g21 : ∀ (cs ys : Array Value) (V : World), BQ w z x y cs (rq q f l c p i) ys V → V.cell? ⟨x, 21, none⟩ = some (.string q.name) := fun _ _ V h => by have e := h.fx HZX.out; simp [World.cell?, e, rq]
  have g22 : ∀ (cs ys : Array Value) (V : World), BQ w z x y cs (rq q f l c p i) ys V → V.cell? ⟨x, 22, none⟩ = some (.int .i64 q.version) := fun _ _ V h => by have e := h.fx HZX.out; simp [World.cell?, e, rq]
  have hbq : onlyQ q = ⟨2, q.ob, 0, ⟨#[]⟩, 0⟩ := by
    unfold onlyQ
    rw [if_pos (by omega)]
    rw [hk]
    rfl
  have HBQ := Lib.hid hbq
  have HW := Lib.hid hw1
  have HW2 := Lib.hid hw2
  have HY := Lib.hid hy
  have HB := Lib.hid hB0
  have G0 := Lib.hid g0
  have G20 := Lib.hid g20
  have G21 := Lib.hid g21
  have G22 := Lib.hid g22
  clear b1 b2 p1 q1 hw1 hw2 f2 hxz hyz hB0 hk hbq g0 g20 g21 g22
  go_enter Try.func29, Try.ntmps29
  go_upto_region 1 with (fail)
  rw [← HW.out, ← hy, ← hx]
  clear hx hy
  iterate 13 (first | go_values | go_skip | go_guarded | go_step)
  refine wpList_store_row rfl 51 (.tmp 3) (.tmp 6) rfl _ #[.int .i64 2, .int .i64 0, .string ⟨#[]⟩, .int .i64 0, .int .i64 0, .bool false, .slice none 0 0, .slice none 0 0, .slice none 0 0, .string ⟨#[]⟩, .int .i64 0, .int .i64 0, .slice none 0 0, .slice none 0 0, .string ⟨#[]⟩, .string ⟨#[]⟩, .int .i64 0, .string ⟨#[]⟩, .string ⟨#[]⟩, .string ⟨#[]⟩, .int .i64 0, .string ⟨#[]⟩, .int .i64 0] rfl rfl 51 _ (G.heap_new _ _) size51 rfl (by simp [Value.oneCell', zrq]) ?_
  rw [← HW2.out, ← hz]
  clear hz x0
  have hB := HB.out
  have c0 := G0.out _ _ _ hB
  go_upto_region 3 with (fail)
  clear c0
  iterate 4 (first | go_values | go_skip | go_guarded | go_step)
  refine wpList_load_elem rfl (.tmp 15) rfl x 1 rfl ⟨q.ob, f, l, c, p, i⟩ (rq_mid (hB.fx HZX.out)) ?_
  try simp only [Act.put, List.setIfInBounds_toArray, List.set_cons_zero, List.set_cons_succ]
  iterate 3 (first | go_values | go_skip | go_guarded | go_step)
  refine storeQob (q := ⟨2, zeroOb, 0, ⟨#[]⟩, 0⟩) (f := Sl0) (l := Sl0) (c := Sl0) (p := Sl0) (i := Sl0) rfl (.tmp 17) (.tmp 16) rfl rfl rfl ⟨q.ob, f, l, c, p, i⟩ rfl hB ?_
  clear hB
  intro w3 hB0
  have hB : BQ w z x y #[.int .i64 2, .int .i64 q.ob.kind, .string q.ob.name, .int .i64 q.ob.uid, .int .i64 q.ob.version, .bool q.ob.deleting, .slice f.A q.ob.fins.length f.c, .slice l.A q.ob.labels.length l.c, .slice c.A q.ob.cidrs.length c.c, .string q.ob.status, .int .i64 q.ob.type, .int .i64 q.ob.policy, .slice p.A q.ob.fams.length p.c, .slice i.A q.ob.ips.length i.c, .string q.ob.v4, .string q.ob.v6, .int .i64 q.ob.bits, .string q.ob.sel, .string q.ob.about, .string q.ob.reason, .int .i64 0, .string ⟨#[]⟩, .int .i64 0] (rq q f l c p i) zrq w3 := hB0
  clear hB0
  have c0 := G0.out _ _ _ hB
  go_upto_region 10 with (fail)
  clear c0
  iterate 1 (first | go_values | go_skip | go_guarded | go_step)
  refine wpList_load_row rfl 51 (.tmp 3) rfl z rfl 51 _ (0, 0) _ hB.fz Try.underlying51 rfl size51 ?_
  refine wpList_store_row rfl 51 (.tmp 2) (.tmp 46) rfl y #[.int .i64 2, .int .i64 q.ob.kind, .string q.ob.name, .int .i64 q.ob.uid, .int .i64 q.ob.version, .bool q.ob.deleting, .slice f.A q.ob.fins.length f.c, .slice l.A q.ob.labels.length l.c, .slice c.A q.ob.cidrs.length c.c, .string q.ob.status, .int .i64 q.ob.type, .int .i64 q.ob.policy, .slice p.A q.ob.fams.length p.c, .slice i.A q.ob.ips.length i.c, .string q.ob.v4, .string q.ob.v6, .int .i64 q.ob.bits, .string q.ob.sel, .string q.ob.about, .string q.ob.reason, .int .i64 0, .string ⟨#[]⟩, .int .i64 0] rfl rfl 51 _ hB.fy size51 rfl (by simp [Value.oneCell', zrq]) ?_
  have HBF := Lib.hid hB
  clear hB
  go_wp2
  refine bodyPost_ret (results_cell_row rfl _ _ y 51 #[.int .i64 2, .int .i64 q.ob.kind, .string q.ob.name, .int .i64 q.ob.uid, .int .i64 q.ob.version, .bool q.ob.deleting, .slice f.A q.ob.fins.length f.c, .slice l.A q.ob.labels.length l.c, .slice c.A q.ob.cidrs.length c.c, .string q.ob.status, .int .i64 q.ob.type, .int .i64 q.ob.policy, .slice p.A q.ob.fams.length p.c, .slice i.A q.ob.ips.length i.c, .string q.ob.v4, .string q.ob.v6, .int .i64 q.ob.bits, .string q.ob.sel, .string q.ob.about, .string q.ob.reason, .int .i64 0, .string ⟨#[]⟩, .int .i64 0] (0, 0) _ rfl (setRow_heap _ _ _ _ _ _ HBF.out.fy) Try.underlying51 rfl size51) rfl ⟨?_, ?_⟩
  · rw [HBQ.out]; rfl
  · exact HBF.out.b.trans ⟨rfl, rfl, rfl, by rw [size_setRow]; exact Nat.le_refl _, fun j hj => setRow_other _ _ _ _ (by rw [HY.out]; omega)⟩
set_option maxRecDepth 100000 in
set_option maxHeartbeats 4000000 in
theorem onlyq_3 (q : Rq) (f l c p i : Sl) (hk : q.op = 3) (w : World) :
    Calls Try.prog 29 #[.agg (rq q f l c p i)] w fun e w' => e = .returned (.agg (rq (onlyQ q) Sl0 Sl0 Sl0 Sl0 Sl0)) ∧ Below w.heap.size w w' := by
  obtain ⟨w1, hw1, b1, p1, q1⟩ := two_rqs w (rq q f l c p i) zrq
  obtain ⟨x, hx⟩ : ∃ x, x = w.heap.size := ⟨_, rfl⟩
  obtain ⟨y, hy⟩ : ∃ y, y = w.heap.size + 1 := ⟨_, rfl⟩
  rw [← hx] at p1
  rw [← hy] at q1
  have x0 : w1.cell? ⟨x, 0, none⟩ = some (.int .i64 3) := by simp [World.cell?, p1, rq, hk]
  obtain ⟨z, hz⟩ : ∃ z, z = w1.heap.size := ⟨_, rfl⟩
  have b2 := bel_allocRow51 w1 zrq #[.int .i64 3, .int .i64 0, .string ⟨#[]⟩, .int .i64 0, .int .i64 0, .bool false, .slice none 0 0, .slice none 0 0, .slice none 0 0, .string ⟨#[]⟩, .int .i64 0, .int .i64 0, .slice none 0 0, .slice none 0 0, .string ⟨#[]⟩, .string ⟨#[]⟩, .int .i64 0, .string ⟨#[]⟩, .string ⟨#[]⟩, .string ⟨#[]⟩, .int .i64 0, .string ⟨#[]⟩, .int .i64 0]
  obtain ⟨w2, hw2⟩ : ∃ w2, w2 = (w1.alloc (.cells zrq 51)).setRow w1.heap.size #[.int .i64 3, .int .i64 0, .string ⟨#[]⟩, .int .i64 0, .int .i64 0, .bool false, .slice none 0 0, .slice none 0 0, .slice none 0 0, .string ⟨#[]⟩, .int .i64 0, .int .i64 0, .slice none 0 0, .slice none 0 0, .string ⟨#[]⟩, .string ⟨#[]⟩, .int .i64 0, .string ⟨#[]⟩, .string ⟨#[]⟩, .string ⟨#[]⟩, .int .i64 0, .string ⟨#[]⟩, .int .i64 0] := ⟨_, rfl⟩
  rw [← hw2] at b2
  have f2 : w2.heap[z]? = some (.cells #[.int .i64 3, .int .i64 0, .string ⟨#[]⟩, .int .i64 0, .int .i64 0, .bool false, .slice none 0 0, .slice none 0 0, .slice none 0 0, .string ⟨#[]⟩, .int .i64 0, .int .i64 0, .slice none 0 0, .slice none 0 0, .string ⟨#[]⟩, .string ⟨#[]⟩, .int .i64 0, .string ⟨#[]⟩, .string ⟨#[]⟩, .string ⟨#[]⟩, .int .i64 0, .string ⟨#[]⟩, .int .i64 0] 51 (0, 0)) := by rw [hw2, hz]; exact setRow_heap _ _ _ _ _ _ (G.heap_new _ _)
  have hxz : x < w1.heap.size := (Array.getElem?_eq_some_iff.1 p1).1
  have hyz : y < w1.heap.size := (Array.getElem?_eq_some_iff.1 q1).1
  have hB0 : BQ w z x y #[.int .i64 3, .int .i64 0, .string ⟨#[]⟩, .int .i64 0, .int .i64 0, .bool false, .slice none 0 0, .slice none 0 0, .slice none 0 0, .string ⟨#[]⟩, .int .i64 0, .int .i64 0, .slice none 0 0, .slice none 0 0, .string ⟨#[]⟩, .string ⟨#[]⟩, .int .i64 0, .string ⟨#[]⟩, .string ⟨#[]⟩, .string ⟨#[]⟩, .int .i64 0, .string ⟨#[]⟩, .int .i64 0] (rq q f l c p i) zrq w2 := ⟨f2, fun _ => (b2.block x hxz).trans p1, (b2.block y hyz).trans q1, b1.trans (belowLe b1.size b2), by omega, by omega⟩
  have HZX := Lib.hid (show z ≠ x by omega)
  have g0 : ∀ (cs ys : Array Value) (V : World), BQ w z x y cs (rq q f l c p i) ys V → V.cell? ⟨x, 0, none⟩ = some (.int .i64 3) := fun _ _ V h => by have e := h.fx HZX.out; simp [World.cell?, e, rq, hk]
  have g20 : ∀ (cs ys : Array Value) (V : World), BQ w z x y cs (rq q f l c p i) ys V → V.cell? ⟨x, 20, none⟩ = some (.int .i64 q.kind) := fun _ _ V h => by have e := h.fx HZX.out; simp [World.cell?, e, rq]
  have g21 : ∀ (cs ys : Array Value) (V : World), BQ w z x y cs (rq q f l c p i) ys V → V.cell? ⟨x, 21, none⟩ = some (.string q.name) := fun _ _ V h => by have e := h.fx HZX.out; simp [World.cell?, e, rq]
  have g22 : ∀ (cs ys : Array Value) (V : World), BQ w z x y cs (rq q f l c p i) ys V → V.cell? ⟨x, 22, none⟩ = some (.int .i64 q.version) := fun _ _ V h => by have e := h.fx HZX.out; simp [World.cell?, e, rq]
  have hbq : onlyQ q = ⟨3, zeroOb, q.kind, q.name, q.version⟩ := by
    unfold onlyQ
    rw [if_neg (by omega), if_pos (by omega)]
    cases q; simp only at hk; subst hk; rfl
  have HBQ := Lib.hid hbq
  have HW := Lib.hid hw1
  have HW2 := Lib.hid hw2
  have HY := Lib.hid hy
  have HB := Lib.hid hB0
  have G0 := Lib.hid g0
  have G20 := Lib.hid g20
  have G21 := Lib.hid g21
  have G22 := Lib.hid g22
  clear b1 b2 p1 q1 hw1 hw2 f2 hxz hyz hB0 hk hbq g0 g20 g21 g22
  go_enter Try.func29, Try.ntmps29
  go_upto_region 1 with (fail)
  rw [← HW.out, ← hy, ← hx]
  clear hx hy
  iterate 13 (first | go_values | go_skip | go_guarded | go_step)
  refine wpList_store_row rfl 51 (.tmp 3) (.tmp 6) rfl _ #[.int .i64 3, .int .i64 0, .string ⟨#[]⟩, .int .i64 0, .int .i64 0, .bool false, .slice none 0 0, .slice none 0 0, .slice none 0 0, .string ⟨#[]⟩, .int .i64 0, .int .i64 0, .slice none 0 0, .slice none 0 0, .string ⟨#[]⟩, .string ⟨#[]⟩, .int .i64 0, .string ⟨#[]⟩, .string ⟨#[]⟩, .string ⟨#[]⟩, .int .i64 0, .string ⟨#[]⟩, .int .i64 0] rfl rfl 51 _ (G.heap_new _ _) size51 rfl (by simp [Value.oneCell', zrq]) ?_
  rw [← HW2.out, ← hz]
  clear hz x0
  have hB := HB.out
  have c0 := G0.out _ _ _ hB
  go_upto_region 5 with (fail)
  have cc := G20.out _ _ _ hB
  have HBB := Lib.hid hB
  clear hB c0
  iterate 10 (first | go_values | go_skip | go_guarded | go_step)
  clear cc
  refine storeQ rfl 3 (.tmp 28) (.tmp 27) rfl rfl 20 rfl (.int .i64 q.kind) rfl rfl (by kernel_rfl) HBB.out (Nat.lt_of_sub_eq_succ rfl) ?_
  clear HBB
  intro w3 hB0
  have hB : BQ w z x y #[.int .i64 3, .int .i64 0, .string ⟨#[]⟩, .int .i64 0, .int .i64 0, .bool false, .slice none 0 0, .slice none 0 0, .slice none 0 0, .string ⟨#[]⟩, .int .i64 0, .int .i64 0, .slice none 0 0, .slice none 0 0, .string ⟨#[]⟩, .string ⟨#[]⟩, .int .i64 0, .string ⟨#[]⟩, .string ⟨#[]⟩, .string ⟨#[]⟩, .int .i64 q.kind, .string ⟨#[]⟩, .int .i64 0] (rq q f l c p i) zrq w3 := hB0
  clear hB0
  have c0 := G0.out _ _ _ hB
  go_upto_region 7 with (fail)
  have cc := G21.out _ _ _ hB
  have HBB := Lib.hid hB
  clear hB c0
  iterate 10 (first | go_values | go_skip | go_guarded | go_step)
  clear cc
  refine storeQ rfl 9 (.tmp 39) (.tmp 38) rfl rfl 21 rfl (.string q.name) rfl rfl (by kernel_rfl) HBB.out (Nat.lt_of_sub_eq_succ rfl) ?_
  clear HBB
  intro w4 hB0
  have hB : BQ w z x y #[.int .i64 3, .int .i64 0, .string ⟨#[]⟩, .int .i64 0, .int .i64 0, .bool false, .slice none 0 0, .slice none 0 0, .slice none 0 0, .string ⟨#[]⟩, .int .i64 0, .int .i64 0, .slice none 0 0, .slice none 0 0, .string ⟨#[]⟩, .string ⟨#[]⟩, .int .i64 0, .string ⟨#[]⟩, .string ⟨#[]⟩, .string ⟨#[]⟩, .int .i64 q.kind, .string q.name, .int .i64 0] (rq q f l c p i) zrq w4 := hB0
  clear hB0
  have c0 := G0.out _ _ _ hB
  go_upto_region 9 with (fail)
  have cc := G22.out _ _ _ hB
  have HBB := Lib.hid hB
  clear hB c0
  iterate 10 (first | go_values | go_skip | go_guarded | go_step)
  clear cc
  refine storeQ rfl 3 (.tmp 45) (.tmp 44) rfl rfl 22 rfl (.int .i64 q.version) rfl rfl (by kernel_rfl) HBB.out (Nat.lt_of_sub_eq_succ rfl) ?_
  clear HBB
  intro w5 hB0
  have hB : BQ w z x y #[.int .i64 3, .int .i64 0, .string ⟨#[]⟩, .int .i64 0, .int .i64 0, .bool false, .slice none 0 0, .slice none 0 0, .slice none 0 0, .string ⟨#[]⟩, .int .i64 0, .int .i64 0, .slice none 0 0, .slice none 0 0, .string ⟨#[]⟩, .string ⟨#[]⟩, .int .i64 0, .string ⟨#[]⟩, .string ⟨#[]⟩, .string ⟨#[]⟩, .int .i64 q.kind, .string q.name, .int .i64 q.version] (rq q f l c p i) zrq w5 := hB0
  clear hB0
  have c0 := G0.out _ _ _ hB
  go_upto_region 10 with (fail)
  clear c0
  iterate 1 (first | go_values | go_skip | go_guarded | go_step)
  refine wpList_load_row rfl 51 (.tmp 3) rfl z rfl 51 _ (0, 0) _ hB.fz Try.underlying51 rfl size51 ?_
  refine wpList_store_row rfl 51 (.tmp 2) (.tmp 46) rfl y #[.int .i64 3, .int .i64 0, .string ⟨#[]⟩, .int .i64 0, .int .i64 0, .bool false, .slice none 0 0, .slice none 0 0, .slice none 0 0, .string ⟨#[]⟩, .int .i64 0, .int .i64 0, .slice none 0 0, .slice none 0 0, .string ⟨#[]⟩, .string ⟨#[]⟩, .int .i64 0, .string ⟨#[]⟩, .string ⟨#[]⟩, .string ⟨#[]⟩, .int .i64 q.kind, .string q.name, .int .i64 q.version] rfl rfl 51 _ hB.fy size51 rfl (by simp [Value.oneCell', zrq]) ?_
  have HBF := Lib.hid hB
  clear hB
  go_wp2
  refine bodyPost_ret (results_cell_row rfl _ _ y 51 #[.int .i64 3, .int .i64 0, .string ⟨#[]⟩, .int .i64 0, .int .i64 0, .bool false, .slice none 0 0, .slice none 0 0, .slice none 0 0, .string ⟨#[]⟩, .int .i64 0, .int .i64 0, .slice none 0 0, .slice none 0 0, .string ⟨#[]⟩, .string ⟨#[]⟩, .int .i64 0, .string ⟨#[]⟩, .string ⟨#[]⟩, .string ⟨#[]⟩, .int .i64 q.kind, .string q.name, .int .i64 q.version] (0, 0) _ rfl (setRow_heap _ _ _ _ _ _ HBF.out.fy) Try.underlying51 rfl size51) rfl ⟨?_, ?_⟩
  · rw [HBQ.out]; rfl
  · exact HBF.out.b.trans ⟨rfl, rfl, rfl, by rw [size_setRow]; exact Nat.le_refl _, fun j hj => setRow_other _ _ _ _ (by rw [HY.out]; omega)⟩
set_option maxRecDepth 100000 in
set_option maxHeartbeats 4000000 in
theorem onlyq_4 (q : Rq) (f l c p i : Sl) (hk : q.op = 4) (w : World) :
    Calls Try.prog 29 #[.agg (rq q f l c p i)] w fun e w' => e = .returned (.agg (rq (onlyQ q) Sl0 Sl0 Sl0 Sl0 Sl0)) ∧ Below w.heap.size w w' := by
  obtain ⟨w1, hw1, b1, p1, q1⟩ := two_rqs w (rq q f l c p i) zrq
  obtain ⟨x, hx⟩ : ∃ x, x = w.heap.size := ⟨_, rfl⟩
  obtain ⟨y, hy⟩ : ∃ y, y = w.heap.size + 1 := ⟨_, rfl⟩
  rw [← hx] at p1
  rw [← hy] at q1
  have x0 : w1.cell? ⟨x, 0, none⟩ = some (.int .i64 4) := by simp [World.cell?, p1, rq, hk]
  obtain ⟨z, hz⟩ : ∃ z, z = w1.heap.size := ⟨_, rfl⟩
  have b2 := bel_allocRow51 w1 zrq #[.int .i64 4, .int .i64 0, .string ⟨#[]⟩, .int .i64 0, .int .i64 0, .bool false, .slice none 0 0, .slice none 0 0, .slice none 0 0, .string ⟨#[]⟩, .int .i64 0, .int .i64 0, .slice none 0 0, .slice none 0 0, .string ⟨#[]⟩, .string ⟨#[]⟩, .int .i64 0, .string ⟨#[]⟩, .string ⟨#[]⟩, .string ⟨#[]⟩, .int .i64 0, .string ⟨#[]⟩, .int .i64 0]
  obtain ⟨w2, hw2⟩ : ∃ w2, w2 = (w1.alloc (.cells zrq 51)).setRow w1.heap.size #[.int .i64 4, .int .i64 0, .string ⟨#[]⟩, .int .i64 0, .int .i64 0, .bool false, .slice none 0 0, .slice none 0 0, .slice none 0 0, .string ⟨#[]⟩, .int .i64 0, .int .i64 0, .slice none 0 0, .slice none 0 0, .string ⟨#[]⟩, .string ⟨#[]⟩, .int .i64 0, .string ⟨#[]⟩, .string ⟨#[]⟩, .string ⟨#[]⟩, .int .i64 0, .string ⟨#[]⟩, .int .i64 0] := ⟨_, rfl⟩
  rw [← hw2] at b2
  have f2 : w2.heap[z]? = some (.cells #[.int .i64 4, .int .i64 0, .string ⟨#[]⟩, .int .i64 0, .int .i64 0, .bool false, .slice none 0 0, .slice none 0 0, .slice none 0 0, .string ⟨#[]⟩, .int .i64 0, .int .i64 0, .slice none 0 0, .slice none 0 0, .string ⟨#[]⟩, .string ⟨#[]⟩, .int .i64 0, .string ⟨#[]⟩, .string ⟨#[]⟩, .string ⟨#[]⟩, .int .i64 0, .string ⟨#[]⟩, .int .i64 0] 51 (0, 0)) := by rw [hw2, hz]; exact setRow_heap _ _ _ _ _ _ (G.heap_new _ _)
  have hxz : x < w1.heap.size := (Array.getElem?_eq_some_iff.1 p1).1
  have hyz : y < w1.heap.size := (Array.getElem?_eq_some_iff.1 q1).1
  have hB0 : BQ w z x y #[.int .i64 4, .int .i64 0, .string ⟨#[]⟩, .int .i64 0, .int .i64 0, .bool false, .slice none 0 0, .slice none 0 0, .slice none 0 0, .string ⟨#[]⟩, .int .i64 0, .int .i64 0, .slice none 0 0, .slice none 0 0, .string ⟨#[]⟩, .string ⟨#[]⟩, .int .i64 0, .string ⟨#[]⟩, .string ⟨#[]⟩, .string ⟨#[]⟩, .int .i64 0, .string ⟨#[]⟩, .int .i64 0] (rq q f l c p i) zrq w2 := ⟨f2, fun _ => (b2.block x hxz).trans p1, (b2.block y hyz).trans q1, b1.trans (belowLe b1.size b2), by omega, by omega⟩
  have HZX := Lib.hid (show z ≠ x by omega)
  have g0 : ∀ (cs ys : Array Value) (V : World), BQ w z x y cs (rq q f l c p i) ys V → V.cell? ⟨x, 0, none⟩ = some (.int .i64 4) := fun _ _ V h => by have e := h.fx HZX.out; simp [World.cell?, e, rq, hk]
  have g20 : ∀ (cs ys : Array Value) (V : World), BQ w z x y cs (rq q f l c p i) ys V → V.cell? ⟨x, 20, none⟩ = some (.int .i64 q.kind) := fun _ _ V h => by have e := h.fx HZX.out; simp [World.cell?, e, rq]
  have g21 : ∀ (cs ys : Array Value) (V : World), BQ w z x y cs (rq q f l c p i) ys V → V.cell? ⟨x, 21, none⟩ = some (.string q.name) := fun _ _ V h => by have e := h.fx HZX.out; simp [World.cell?, e, rq]
  have g22 : ∀ (cs ys : Array Value) (V : World), BQ w z x y cs (rq q f l c p i) ys V → V.cell? ⟨x, 22, none⟩ = some (.int .i64 q.version) := fun _ _ V h => by have e := h.fx HZX.out; simp [World.cell?, e, rq]
  have hbq : onlyQ q = ⟨4, zeroOb, q.kind, q.name, 0⟩ := by
    unfold onlyQ
    rw [if_neg (by omega), if_neg (by omega), if_pos (by omega)]
    cases q; simp only at hk; subst hk; rfl
  have HBQ := Lib.hid hbq
  have HW := Lib.hid hw1
  have HW2 := Lib.hid hw2
  have HY := Lib.hid hy
  have HB := Lib.hid hB0
  have G0 := Lib.hid g0
  have G20 := Lib.hid g20
  have G21 := Lib.hid g21
  have G22 := Lib.hid g22
  clear b1 b2 p1 q1 hw1 hw2 f2 hxz hyz hB0 hk hbq g0 g20 g21 g22
  go_enter Try.func29, Try.ntmps29
  go_upto_region 1 with (fail)
  rw [← HW.out, ← hy, ← hx]
  clear hx hy
  iterate 13 (first | go_values | go_skip | go_guarded | go_step)
  refine wpList_store_row rfl 51 (.tmp 3) (.tmp 6) rfl _ #[.int .i64 4, .int .i64 0, .string ⟨#[]⟩, .int .i64 0, .int .i64 0, .bool false, .slice none 0 0, .slice none 0 0, .slice none 0 0, .string ⟨#[]⟩, .int .i64 0, .int .i64 0, .slice none 0 0, .slice none 0 0, .string ⟨#[]⟩, .string ⟨#[]⟩, .int .i64 0, .string ⟨#[]⟩, .string ⟨#[]⟩, .string ⟨#[]⟩, .int .i64 0, .string ⟨#[]⟩, .int .i64 0] rfl rfl 51 _ (G.heap_new _ _) size51 rfl (by simp [Value.oneCell', zrq]) ?_
  rw [← HW2.out, ← hz]
  clear hz x0
  have hB := HB.out
  have c0 := G0.out _ _ _ hB
  go_upto_region 5 with (fail)
  have cc := G20.out _ _ _ hB
  have HBB := Lib.hid hB
  clear hB c0
  iterate 10 (first | go_values | go_skip | go_guarded | go_step)
  clear cc
  refine storeQ rfl 3 (.tmp 28) (.tmp 27) rfl rfl 20 rfl (.int .i64 q.kind) rfl rfl (by kernel_rfl) HBB.out (Nat.lt_of_sub_eq_succ rfl) ?_
  clear HBB
  intro w3 hB0
  have hB : BQ w z x y #[.int .i64 4, .int .i64 0, .string ⟨#[]⟩, .int .i64 0, .int .i64 0, .bool false, .slice none 0 0, .slice none 0 0, .slice none 0 0, .string ⟨#[]⟩, .int .i64 0, .int .i64 0, .slice none 0 0, .slice none 0 0, .string ⟨#[]⟩, .string ⟨#[]⟩, .int .i64 0, .string ⟨#[]⟩, .string ⟨#[]⟩, .string ⟨#[]⟩, .int .i64 q.kind, .string ⟨#[]⟩, .int .i64 0] (rq q f l c p i) zrq w3 := hB0
  clear hB0
  have c0 := G0.out _ _ _ hB
  go_upto_region 7 with (fail)
  have cc := G21.out _ _ _ hB
  have HBB := Lib.hid hB
  clear hB c0
  iterate 10 (first | go_values | go_skip | go_guarded | go_step)
  clear cc
  refine storeQ rfl 9 (.tmp 39) (.tmp 38) rfl rfl 21 rfl (.string q.name) rfl rfl (by kernel_rfl) HBB.out (Nat.lt_of_sub_eq_succ rfl) ?_
  clear HBB
  intro w4 hB0
  have hB : BQ w z x y #[.int .i64 4, .int .i64 0, .string ⟨#[]⟩, .int .i64 0, .int .i64 0, .bool false, .slice none 0 0, .slice none 0 0, .slice none 0 0, .string ⟨#[]⟩, .int .i64 0, .int .i64 0, .slice none 0 0, .slice none 0 0, .string ⟨#[]⟩, .string ⟨#[]⟩, .int .i64 0, .string ⟨#[]⟩, .string ⟨#[]⟩, .string ⟨#[]⟩, .int .i64 q.kind, .string q.name, .int .i64 0] (rq q f l c p i) zrq w4 := hB0
  clear hB0
  have c0 := G0.out _ _ _ hB
  go_upto_region 10 with (fail)
  clear c0
  iterate 1 (first | go_values | go_skip | go_guarded | go_step)
  refine wpList_load_row rfl 51 (.tmp 3) rfl z rfl 51 _ (0, 0) _ hB.fz Try.underlying51 rfl size51 ?_
  refine wpList_store_row rfl 51 (.tmp 2) (.tmp 46) rfl y #[.int .i64 4, .int .i64 0, .string ⟨#[]⟩, .int .i64 0, .int .i64 0, .bool false, .slice none 0 0, .slice none 0 0, .slice none 0 0, .string ⟨#[]⟩, .int .i64 0, .int .i64 0, .slice none 0 0, .slice none 0 0, .string ⟨#[]⟩, .string ⟨#[]⟩, .int .i64 0, .string ⟨#[]⟩, .string ⟨#[]⟩, .string ⟨#[]⟩, .int .i64 q.kind, .string q.name, .int .i64 0] rfl rfl 51 _ hB.fy size51 rfl (by simp [Value.oneCell', zrq]) ?_
  have HBF := Lib.hid hB
  clear hB
  go_wp2
  refine bodyPost_ret (results_cell_row rfl _ _ y 51 #[.int .i64 4, .int .i64 0, .string ⟨#[]⟩, .int .i64 0, .int .i64 0, .bool false, .slice none 0 0, .slice none 0 0, .slice none 0 0, .string ⟨#[]⟩, .int .i64 0, .int .i64 0, .slice none 0 0, .slice none 0 0, .string ⟨#[]⟩, .string ⟨#[]⟩, .int .i64 0, .string ⟨#[]⟩, .string ⟨#[]⟩, .string ⟨#[]⟩, .int .i64 q.kind, .string q.name, .int .i64 0] (0, 0) _ rfl (setRow_heap _ _ _ _ _ _ HBF.out.fy) Try.underlying51 rfl size51) rfl ⟨?_, ?_⟩
  · rw [HBQ.out]; rfl
  · exact HBF.out.b.trans ⟨rfl, rfl, rfl, by rw [size_setRow]; exact Nat.le_refl _, fun j hj => setRow_other _ _ _ _ (by rw [HY.out]; omega)⟩
set_option maxRecDepth 100000 in
set_option maxHeartbeats 4000000 in
theorem onlyq_5 (q : Rq) (f l c p i : Sl) (hk : q.op = 5) (w : World) :
    Calls Try.prog 29 #[.agg (rq q f l c p i)] w fun e w' => e = .returned (.agg (rq (onlyQ q) Sl0 Sl0 Sl0 Sl0 Sl0)) ∧ Below w.heap.size w w' := by
  obtain ⟨w1, hw1, b1, p1, q1⟩ := two_rqs w (rq q f l c p i) zrq
  obtain ⟨x, hx⟩ : ∃ x, x = w.heap.size := ⟨_, rfl⟩
  obtain ⟨y, hy⟩ : ∃ y, y = w.heap.size + 1 := ⟨_, rfl⟩
  rw [← hx] at p1
  rw [← hy] at q1
  have x0 : w1.cell? ⟨x, 0, none⟩ = some (.int .i64 5) := by simp [World.cell?, p1, rq, hk]
  obtain ⟨z, hz⟩ : ∃ z, z = w1.heap.size := ⟨_, rfl⟩
  have b2 := bel_allocRow51 w1 zrq #[.int .i64 5, .int .i64 0, .string ⟨#[]⟩, .int .i64 0, .int .i64 0, .bool false, .slice none 0 0, .slice none 0 0, .slice none 0 0, .string ⟨#[]⟩, .int .i64 0, .int .i64 0, .slice none 0 0, .slice none 0 0, .string ⟨#[]⟩, .string ⟨#[]⟩, .int .i64 0, .string ⟨#[]⟩, .string ⟨#[]⟩, .string ⟨#[]⟩, .int .i64 0, .string ⟨#[]⟩, .int .i64 0]
  obtain ⟨w2, hw2⟩ : ∃ w2, w2 = (w1.alloc (.cells zrq 51)).setRow w1.heap.size #[.int .i64 5, .int .i64 0, .string ⟨#[]⟩, .int .i64 0, .int .i64 0, .bool false, .slice none 0 0, .slice none 0 0, .slice none 0 0, .string ⟨#[]⟩, .int .i64 0, .int .i64 0, .slice none 0 0, .slice none 0 0, .string ⟨#[]⟩, .string ⟨#[]⟩, .int .i64 0, .string ⟨#[]⟩, .string ⟨#[]⟩, .string ⟨#[]⟩, .int .i64 0, .string ⟨#[]⟩, .int .i64 0] := ⟨_, rfl⟩
  rw [← hw2] at b2
  have f2 : w2.heap[z]? = some (.cells #[.int .i64 5, .int .i64 0, .string ⟨#[]⟩, .int .i64 0, .int .i64 0, .bool false, .slice none 0 0, .slice none 0 0, .slice none 0 0, .string ⟨#[]⟩, .int .i64 0, .int .i64 0, .slice none 0 0, .slice none 0 0, .string ⟨#[]⟩, .string ⟨#[]⟩, .int .i64 0, .string ⟨#[]⟩, .string ⟨#[]⟩, .string ⟨#[]⟩, .int .i64 0, .string ⟨#[]⟩, .int .i64 0] 51 (0, 0)) := by rw [hw2, hz]; exact setRow_heap _ _ _ _ _ _ (G.heap_new _ _)
  have hxz : x < w1.heap.size := (Array.getElem?_eq_some_iff.1 p1).1
  have hyz : y < w1.heap.size := (Array.getElem?_eq_some_iff.1 q1).1
  have hB0 : BQ w z x y #[.int .i64 5, .int .i64 0, .string ⟨#[]⟩, .int .i64 0, .int .i64 0, .bool false, .slice none 0 0, .slice none 0 0, .slice none 0 0, .string ⟨#[]⟩, .int .i64 0, .int .i64 0, .slice none 0 0, .slice none 0 0, .string ⟨#[]⟩, .string ⟨#[]⟩, .int .i64 0, .string ⟨#[]⟩, .string ⟨#[]⟩, .string ⟨#[]⟩, .int .i64 0, .string ⟨#[]⟩, .int .i64 0] (rq q f l c p i) zrq w2 := ⟨f2, fun _ => (b2.block x hxz).trans p1, (b2.block y hyz).trans q1, b1.trans (belowLe b1.size b2), by omega, by omega⟩
  have HZX := Lib.hid (show z ≠ x by omega)
  have g0 : ∀ (cs ys : Array Value) (V : World), BQ w z x y cs (rq q f l c p i) ys V → V.cell? ⟨x, 0, none⟩ = some (.int .i64 5) := fun _ _ V h => by have e := h.fx HZX.out; simp [World.cell?, e, rq, hk]
  have g20 : ∀ (cs ys : Array Value) (V : World), BQ w z x y cs (rq q f l c p i) ys V → V.cell? ⟨x, 20, none⟩ = some (.int .i64 q.kind) := fun _ _ V h => by have e := h.fx HZX.out; simp [World.cell?, e, rq]
  have g21 : ∀ (cs ys : Array Value) (V : World), BQ w z x y cs (rq q f l c p i) ys V → V.cell? ⟨x, 21, none⟩ = some (.string q.name) := fun _ _ V h => by have e := h.fx HZX.out; simp [World.cell?, e, rq]
  have g22 : ∀ (cs ys : Array Value) (V : World), BQ w z x y cs (rq q f l c p i) ys V → V.cell? ⟨x, 22, none⟩ = some (.int .i64 q.version) := fun _ _ V h => by have e := h.fx HZX.out; simp [World.cell?, e, rq]
  have hbq : onlyQ q = ⟨5, zeroOb, q.kind, ⟨#[]⟩, 0⟩ := by
    unfold onlyQ
    rw [if_neg (by omega), if_neg (by omega), if_neg (by omega)]
    rw [hk]
    rfl
  have HBQ := Lib.hid hbq
  have HW := Lib.hid hw1
  have HW2 := Lib.hid hw2
  have HY := Lib.hid hy
  have HB := Lib.hid hB0
  have G0 := Lib.hid g0
  have G20 := Lib.hid g20
  have G21 := Lib.hid g21
  have G22 := Lib.hid g22
  clear b1 b2 p1 q1 hw1 hw2 f2 hxz hyz hB0 hk hbq g0 g20 g21 g22
  go_enter Try.func29, Try.ntmps29
  go_upto_region 1 with (fail)
  rw [← HW.out, ← hy, ← hx]
  clear hx hy
  iterate 13 (first | go_values | go_skip | go_guarded | go_step)
  refine wpList_store_row rfl 51 (.tmp 3) (.tmp 6) rfl _ #[.int .i64 5, .int .i64 0, .string ⟨#[]⟩, .int .i64 0, .int .i64 0, .bool false, .slice none 0 0, .slice none 0 0, .slice none 0 0, .string ⟨#[]⟩, .int .i64 0, .int .i64 0, .slice none 0 0, .slice none 0 0, .string ⟨#[]⟩, .string ⟨#[]⟩, .int .i64 0, .string ⟨#[]⟩, .string ⟨#[]⟩, .string ⟨#[]⟩, .int .i64 0, .string ⟨#[]⟩, .int .i64 0] rfl rfl 51 _ (G.heap_new _ _) size51 rfl (by simp [Value.oneCell', zrq]) ?_
  rw [← HW2.out, ← hz]
  clear hz x0
  have hB := HB.out
  have c0 := G0.out _ _ _ hB
  go_upto_region 5 with (fail)
  have cc := G20.out _ _ _ hB
  have HBB := Lib.hid hB
  clear hB c0
  iterate 10 (first | go_values | go_skip | go_guarded | go_step)
  clear cc
  refine storeQ rfl 3 (.tmp 28) (.tmp 27) rfl rfl 20 rfl (.int .i64 q.kind) rfl rfl (by kernel_rfl) HBB.out (Nat.lt_of_sub_eq_succ rfl) ?_
  clear HBB
  intro w3 hB0
  have hB : BQ w z x y #[.int .i64 5, .int .i64 0, .string ⟨#[]⟩, .int .i64 0, .int .i64 0, .bool false, .slice none 0 0, .slice none 0 0, .slice none 0 0, .string ⟨#[]⟩, .int .i64 0, .int .i64 0, .slice none 0 0, .slice none 0 0, .string ⟨#[]⟩, .string ⟨#[]⟩, .int .i64 0, .string ⟨#[]⟩, .string ⟨#[]⟩, .string ⟨#[]⟩, .int .i64 q.kind, .string ⟨#[]⟩, .int .i64 0] (rq q f l c p i) zrq w3 := hB0
  clear hB0
  have c0 := G0.out _ _ _ hB
  go_upto_region 10 with (fail)
  clear c0
  iterate 1 (first | go_values | go_skip | go_guarded | go_step)
  refine wpList_load_row rfl 51 (.tmp 3) rfl z rfl 51 _ (0, 0) _ hB.fz Try.underlying51 rfl size51 ?_
  refine wpList_store_row rfl 51 (.tmp 2) (.tmp 46) rfl y #[.int .i64 5, .int .i64 0, .string ⟨#[]⟩, .int .i64 0, .int .i64 0, .bool false, .slice none 0 0, .slice none 0 0, .slice none 0 0, .string ⟨#[]⟩, .int .i64 0, .int .i64 0, .slice none 0 0, .slice none 0 0, .string ⟨#[]⟩, .string ⟨#[]⟩, .int .i64 0, .string ⟨#[]⟩, .string ⟨#[]⟩, .string ⟨#[]⟩, .int .i64 q.kind, .string ⟨#[]⟩, .int .i64 0] rfl rfl 51 _ hB.fy size51 rfl (by simp [Value.oneCell', zrq]) ?_
  have HBF := Lib.hid hB
  clear hB
  go_wp2
  refine bodyPost_ret (results_cell_row rfl _ _ y 51 #[.int .i64 5, .int .i64 0, .string ⟨#[]⟩, .int .i64 0, .int .i64 0, .bool false, .slice none 0 0, .slice none 0 0, .slice none 0 0, .string ⟨#[]⟩, .int .i64 0, .int .i64 0, .slice none 0 0, .slice none 0 0, .string ⟨#[]⟩, .string ⟨#[]⟩, .int .i64 0, .string ⟨#[]⟩, .string ⟨#[]⟩, .string ⟨#[]⟩, .int .i64 q.kind, .string ⟨#[]⟩, .int .i64 0] (0, 0) _ rfl (setRow_heap _ _ _ _ _ _ HBF.out.fy) Try.underlying51 rfl size51) rfl ⟨?_, ?_⟩
  · rw [HBQ.out]; rfl
  · exact HBF.out.b.trans ⟨rfl, rfl, rfl, by rw [size_setRow]; exact Nat.le_refl _, fun j hj => setRow_other _ _ _ _ (by rw [HY.out]; omega)⟩
end Go.Proofs.Ytolndeolehkjoaa
