/- The reference's parts of a shape: In, Texts, Only. -/
import Derived.Test.YtolndeolehkjoaaLg2c
import Derived.Test.YtolndeolehkjoaaSh2c
import Derived.Test.YtolndeolehkjoaaSm1c
namespace Go.Proofs.Ytolndeolehkjoaa
set_option linter.unusedVariables false
set_option linter.unusedSimpArgs false
open Go.RowKit CodP
set_option maxRecDepth 100000 in
set_option maxHeartbeats 1000000 in
theorem in_any (n m : Int) (r : Bool) (hr : inR n m = r) (w : World) :
    Calls Try.prog 57 #[.int .i64 n, .int .i64 m] w fun e w' => e = .returned (.bool r) ∧ w' = w := by
  subst hr
  by_cases h0 : 0 ≤ n
  · by_cases h1 : n ≤ m
    · have hi : inR n m = true := decide_eq_true ⟨h0, h1⟩
      have HI := Lib.hid hi
      have d0 : decide (0 ≤ n) = true := decide_eq_true h0
      have d1 : decide (n ≤ m) = true := decide_eq_true h1
      clear hi
      go_enter Try.func57, Try.ntmps57
      go_wp2
      go_ret
      exact ⟨by rw [HI.out]; rfl, rfl⟩
    · have hi : inR n m = false := decide_eq_false (fun h => h1 h.2)
      have HI := Lib.hid hi
      have d0 : decide (0 ≤ n) = true := decide_eq_true h0
      have d1 : decide (n ≤ m) = false := decide_eq_false h1
      clear hi
      go_enter Try.func57, Try.ntmps57
      go_wp2
      go_ret
      exact ⟨by rw [HI.out]; rfl, rfl⟩
  · have hi : inR n m = false := decide_eq_false (fun h => h0 h.1)
    have HI := Lib.hid hi
    have d0 : decide (0 ≤ n) = false := decide_eq_false h0
    clear hi
    go_enter Try.func57, Try.ntmps57
    go_wp2
    go_ret
    exact ⟨by rw [HI.out]; rfl, rfl⟩

set_option maxRecDepth 100000 in
set_option maxHeartbeats 2000000 in
theorem rtexts_any (L : List ByteArray) (A : Option Addr) (c m : Nat) (hm : m ≤ 100) (r : Bool) (hres : textsB L m = r) (w : World) (hr : RowR w A (L.flatMap cS)) :
    Calls Try.prog 82 #[.slice A L.length c, .int .i64 m] w fun e w' => e = .returned (.bool r) ∧ Below w.heap.size w w' := by
  have HR := Lib.hid hr
  clear hr
  by_cases hl : (m : Int) < L.length
  · have hx : textsB L m = false := by unfold textsB; rw [decide_eq_false (by omega)]; rfl
    have HX := Lib.hid (hres.symm.trans hx)
    clear hx hres
    go_enter Try.func82, Try.ntmps82
    go_wp2
    go_ret
    exact ⟨by rw [HX.out]; rfl, Below.refl _ _⟩
  · have hx : textsB L m = L.all fun s => decide (s.size ≤ 200) := by unfold textsB; rw [decide_eq_true (by omega)]; rfl
    have HX := Lib.hid (hres.symm.trans hx)
    have hle : (L.length : Int) ≤ 100 := by omega
    clear hx hres
    go_enter Try.func82, Try.ntmps82
    go_wp2
    go_loopw [5] (fun i wr => ∃ k : Nat, k ≤ L.length ∧ i = .int .i64 k ∧ Hid ((L.take k).all (fun s => decide (s.size ≤ 200)) = true ∧ Below w.heap.size w wr)) (fun i _ => L.length - (intOf i).toNat)
    case atStart => exact ⟨0, Nat.zero_le _, rfl, Lib.hid ⟨by simp, Below.refl _ _⟩⟩
    case round =>
      obtain ⟨k, hk, rfl, H⟩ := hrel
      by_cases hkn : k < L.length
      · obtain ⟨x, hx⟩ : ∃ x, L[k]? = some x := ⟨_, List.getElem?_eq_getElem hkn⟩
        have h1 := flat_at cS 1 (fun _ => rfl) L k x hx 0 (by omega)
        obtain ⟨ad, hA, e1⟩ := HR.out.below H.out.2 _ _ h1
        simp only [Nat.mul_one, Nat.add_zero] at e1
        subst hA
        by_cases hs : x.size ≤ 200
        · have hs2 : (x.size : Int) ≤ 200 := by omega
          have hn : (L.take (k + 1)).all (fun s => decide (s.size ≤ 200)) = true := by rw [List.take_add_one, hx, List.all_append, H.out.1]; simp [hs]
          have HN := Lib.hid hn
          clear hn hx h1 hs
          go_wp2
          go_roundw
          case rel => exact ⟨k + 1, by omega, by go_num, Lib.hid ⟨HN.out, H.out.2⟩⟩
          case measure => simp [intOf]; omega
        · have hs2 : (200 : Int) < x.size := by omega
          have hn : (L.all fun s => decide (s.size ≤ 200)) = false := by
            rw [List.all_eq_false]; exact ⟨x, List.mem_of_getElem? hx, by simpa using hs⟩
          have HN := Lib.hid hn
          clear hn hx h1 hs
          go_wp2
          go_ret
          exact ⟨by rw [HX.out, HN.out]; rfl, H.out.2⟩
      · obtain rfl : k = L.length := by omega
        have hn := H.out.1
        rw [List.take_length] at hn
        have HN := Lib.hid hn
        clear hn
        go_wp2
        go_ret
        exact ⟨by rw [HX.out, HN.out]; rfl, H.out.2⟩
/-- three blocks of a world that grew out of another: z is written -/
structure BZ (w0 : World) (x y z : Nat) (cs xs ys : Array Value) (w : World) : Prop where
  fz : w.heap[z]? = some (.cells cs 32 (0, 0))
  fx : w.heap[x]? = some (.cells xs 32 (0, 0))
  fy : w.heap[y]? = some (.cells ys 32 (0, 0))
  b : Below w0.heap.size w0 w
  ne : x ≠ z ∧ y ≠ z ∧ w0.heap.size ≤ z
theorem storeZ {P : Program} {ops : Array Oper} {rest : List Oper} {o : Oper} {a : Act} {w w0 : World} {Q : Exit → Act → World → Prop} {x y z : Nat} {cs xs ys : Array Value} (hgd : o.guard = none) (ty : TypeId) (p q : Operand) (ho : o.op = .store ty p q) (hd : o.dst = none)
    (j : Nat) (hx : a.eval p = .pointer (some ⟨z, j, none⟩)) (v : Value) (hv : a.eval q = v) (h1 : v.oneCell' = true) (hi : (P.info? ty).map (·.size) = some 1) (hB : BZ w0 x y z cs xs ys w) (hj : j < cs.size)
    (h : ∀ w', BZ w0 x y z (cs.setIfInBounds j v) xs ys w' → wpList P ops Q rest a w') : wpList P ops Q (o :: rest) a w := by
  refine wpList_plain hgd fun K hK => ?_
  unfold Oper.wp execOp
  simp only [ho, hx, hv, Instr.storeAt, Instr.sureAddr, Sem.run_bind, Sem.run_pure, Result.andThen_ok, run_storeVar_field w z j ty 32 cs v hB.fz hj hi h1]
  have e : a.put o.dst undef = a := by rw [hd]; rfl
  exact hK _ _ (by rw [e]; exact h _ ⟨heap_setCell_same _ _ _ _ _ _ hB.fz, (Below.heap_setCell _ _ _ _ (fun e => hB.ne.1 e)).trans hB.fx, (Below.heap_setCell _ _ _ _ (fun e => hB.ne.2.1 e)).trans hB.fy, hB.b.setCell (p := ⟨z, j, none⟩) hB.ne.2.2 _, hB.ne⟩)
def only0 (o : Ob) : Ob := { zeroOb with kind := o.kind, name := o.name, uid := o.uid, version := o.version, deleting := o.deleting, fins := o.fins, labels := o.labels }
def only1 (o : Ob) : Ob := { only0 o with cidrs := o.cidrs, status := o.status }
def only2 (o : Ob) : Ob := { only0 o with type := o.type, policy := o.policy, fams := o.fams, ips := o.ips }
def only3 (o : Ob) : Ob := { only0 o with v4 := o.v4, v6 := o.v6, bits := o.bits, sel := o.sel }
def only4 (o : Ob) : Ob := { only0 o with about := o.about, reason := o.reason }
def onlyO (o : Ob) : Ob := if o.kind = 1 then only1 o else if o.kind = 2 then only2 o else if o.kind = 3 then only3 o else only4 o
set_option maxRecDepth 100000 in
set_option maxHeartbeats 4000000 in
theorem only1_any (o : Ob) (f l c p i : Sl) (hk : o.kind = 1) (w : World) :
    Calls Try.prog 81 #[.agg (oc o f l c p i)] w fun e w' => e = .returned (.agg (oc (only1 o) f l c Sl0 Sl0)) ∧ Below w.heap.size w w' := by
  obtain ⟨w1, hw1, b1, p1, q1⟩ := two_boxes w (oc o f l c p i) zob
  obtain ⟨x, hx⟩ : ∃ x, x = w.heap.size := ⟨_, rfl⟩
  obtain ⟨y, hy⟩ : ∃ y, y = w.heap.size + 1 := ⟨_, rfl⟩
  rw [← hx] at p1
  rw [← hy] at q1
  have x0 : w1.cell? ⟨x, 0, none⟩ = some (.int .i64 o.kind) := by simp [World.cell?, p1, oc]
  have x1 : w1.cell? ⟨x, 1, none⟩ = some (.string o.name) := by simp [World.cell?, p1, oc]
  have x2 : w1.cell? ⟨x, 2, none⟩ = some (.int .i64 o.uid) := by simp [World.cell?, p1, oc]
  have x3 : w1.cell? ⟨x, 3, none⟩ = some (.int .i64 o.version) := by simp [World.cell?, p1, oc]
  have x4 : w1.cell? ⟨x, 4, none⟩ = some (.bool o.deleting) := by simp [World.cell?, p1, oc]
  have x5 : w1.cell? ⟨x, 5, none⟩ = some (.slice f.A o.fins.length f.c) := by simp [World.cell?, p1, oc]
  have x6 : w1.cell? ⟨x, 6, none⟩ = some (.slice l.A o.labels.length l.c) := by simp [World.cell?, p1, oc]
  obtain ⟨z, hz⟩ : ∃ z, z = w1.heap.size := ⟨_, rfl⟩
  have b2 := bel_allocRow w1 zob #[.int .i64 o.kind, .string o.name, .int .i64 o.uid, .int .i64 o.version, .bool o.deleting, .slice f.A o.fins.length f.c, .slice l.A o.labels.length l.c, .slice none 0 0, .string ⟨#[]⟩, .int .i64 0, .int .i64 0, .slice none 0 0, .slice none 0 0, .string ⟨#[]⟩, .string ⟨#[]⟩, .int .i64 0, .string ⟨#[]⟩, .string ⟨#[]⟩, .string ⟨#[]⟩] 32
  obtain ⟨w2, hw2⟩ : ∃ w2, w2 = (w1.alloc (.cells zob 32)).setRow w1.heap.size #[.int .i64 o.kind, .string o.name, .int .i64 o.uid, .int .i64 o.version, .bool o.deleting, .slice f.A o.fins.length f.c, .slice l.A o.labels.length l.c, .slice none 0 0, .string ⟨#[]⟩, .int .i64 0, .int .i64 0, .slice none 0 0, .slice none 0 0, .string ⟨#[]⟩, .string ⟨#[]⟩, .int .i64 0, .string ⟨#[]⟩, .string ⟨#[]⟩, .string ⟨#[]⟩] := ⟨_, rfl⟩
  rw [← hw2] at b2
  have f2 : w2.heap[z]? = some (.cells #[.int .i64 o.kind, .string o.name, .int .i64 o.uid, .int .i64 o.version, .bool o.deleting, .slice f.A o.fins.length f.c, .slice l.A o.labels.length l.c, .slice none 0 0, .string ⟨#[]⟩, .int .i64 0, .int .i64 0, .slice none 0 0, .slice none 0 0, .string ⟨#[]⟩, .string ⟨#[]⟩, .int .i64 0, .string ⟨#[]⟩, .string ⟨#[]⟩, .string ⟨#[]⟩] 32 (0, 0)) := by rw [hw2, hz]; exact setRow_heap _ _ _ _ _ _ (G.heap_new _ _)
  have hxz : x < w1.heap.size := (Array.getElem?_eq_some_iff.1 p1).1
  have hyz : y < w1.heap.size := (Array.getElem?_eq_some_iff.1 q1).1
  have hB0 : BZ w x y z #[.int .i64 o.kind, .string o.name, .int .i64 o.uid, .int .i64 o.version, .bool o.deleting, .slice f.A o.fins.length f.c, .slice l.A o.labels.length l.c, .slice none 0 0, .string ⟨#[]⟩, .int .i64 0, .int .i64 0, .slice none 0 0, .slice none 0 0, .string ⟨#[]⟩, .string ⟨#[]⟩, .int .i64 0, .string ⟨#[]⟩, .string ⟨#[]⟩, .string ⟨#[]⟩] (oc o f l c p i) zob w2 := ⟨f2, (b2.block x hxz).trans p1, (b2.block y hyz).trans q1, b1.trans (belowLe b1.size b2), by omega, by omega, by omega⟩
  have g : ∀ (cs : Array Value) (V : World), BZ w x y z cs (oc o f l c p i) zob V → ∀ j u, (oc o f l c p i)[j]? = some u → V.cell? ⟨x, j, none⟩ = some u := fun _ _ h j u hj => by simp [World.cell?, h.fx, hj]
  have hk1 : (o.kind == 1) = true := by rw [hk]; rfl
  have hk2 : (o.kind == 2) = false := by rw [hk]; rfl
  have hk3 : (o.kind == 3) = false := by rw [hk]; rfl
  have hk4 : (o.kind == 4) = false := by rw [hk]; rfl
  have HW := Lib.hid hw1
  have HW2 := Lib.hid hw2
  have HX := Lib.hid hx
  have HY := Lib.hid hy
  have HZ := Lib.hid hz
  have HB := Lib.hid hB0
  have GG := Lib.hid g
  clear b1 b2 p1 q1 hw1 hw2 f2 hxz hyz hB0 g hk
  go_enter Try.func81, Try.ntmps81
  go_upto_region 1 with (fail)
  rw [← HW.out, ← hy, ← hx]
  clear hx hy
  iterate 49 (first | go_values | go_skip | go_guarded | go_step)
  refine wpList_store_row rfl 32 (.tmp 3) (.tmp 18) rfl _ #[.int .i64 o.kind, .string o.name, .int .i64 o.uid, .int .i64 o.version, .bool o.deleting, .slice f.A o.fins.length f.c, .slice l.A o.labels.length l.c, .slice none 0 0, .string ⟨#[]⟩, .int .i64 0, .int .i64 0, .slice none 0 0, .slice none 0 0, .string ⟨#[]⟩, .string ⟨#[]⟩, .int .i64 0, .string ⟨#[]⟩, .string ⟨#[]⟩, .string ⟨#[]⟩] rfl rfl 32 _ (G.heap_new _ _) size32 rfl (oc_one (only0 o) f l Sl0 Sl0 Sl0) ?_
  rw [← HW2.out, ← hz]
  clear hz x0 x1 x2 x3 x4 x5 x6
  go_upto_region 2 with (fail)
  have x0 : w2.cell? ⟨x, 0, none⟩ = some (.int .i64 o.kind) := GG.out _ _ HB.out 0 _ rfl
  have hB := HB.out
  go_upto_region 4 with (fail)
  clear x0
  have xx := GG.out _ _ hB 7 (.slice c.A o.cidrs.length c.c) rfl
  have HBB := Lib.hid hB
  clear hB
  iterate 10 (first | go_values | go_skip | go_guarded | go_step)
  clear xx
  refine storeZ rfl 28 (.tmp 25) (.tmp 24) rfl rfl 7 rfl (.slice c.A o.cidrs.length c.c) rfl rfl (by kernel_rfl) HBB.out (Nat.lt_of_sub_eq_succ rfl) ?_
  clear HBB
  intro w17 hB0
  have hB : BZ w x y z #[.int .i64 o.kind, .string o.name, .int .i64 o.uid, .int .i64 o.version, .bool o.deleting, .slice f.A o.fins.length f.c, .slice l.A o.labels.length l.c, .slice c.A o.cidrs.length c.c, .string ⟨#[]⟩, .int .i64 0, .int .i64 0, .slice none 0 0, .slice none 0 0, .string ⟨#[]⟩, .string ⟨#[]⟩, .int .i64 0, .string ⟨#[]⟩, .string ⟨#[]⟩, .string ⟨#[]⟩] (oc o f l c p i) zob w17 := hB0
  clear hB0
  go_upto_region 5 with (fail)
  have xx := GG.out _ _ hB 8 (.string o.status) rfl
  have HBB := Lib.hid hB
  clear hB
  iterate 10 (first | go_values | go_skip | go_guarded | go_step)
  clear xx
  refine storeZ rfl 9 (.tmp 28) (.tmp 27) rfl rfl 8 rfl (.string o.status) rfl rfl (by kernel_rfl) HBB.out (Nat.lt_of_sub_eq_succ rfl) ?_
  clear HBB
  intro w18 hB0
  have hB : BZ w x y z #[.int .i64 o.kind, .string o.name, .int .i64 o.uid, .int .i64 o.version, .bool o.deleting, .slice f.A o.fins.length f.c, .slice l.A o.labels.length l.c, .slice c.A o.cidrs.length c.c, .string o.status, .int .i64 0, .int .i64 0, .slice none 0 0, .slice none 0 0, .string ⟨#[]⟩, .string ⟨#[]⟩, .int .i64 0, .string ⟨#[]⟩, .string ⟨#[]⟩, .string ⟨#[]⟩] (oc o f l c p i) zob w18 := hB0
  clear hB0
  go_upto_region 19 with (fail)
  iterate 1 (first | go_values | go_skip | go_guarded | go_step)
  refine wpList_load_row rfl 32 (.tmp 3) rfl z rfl 32 _ (0, 0) _ hB.fz Try.underlying32 rfl size32 ?_
  refine wpList_store_row rfl 32 (.tmp 2) (.tmp 65) rfl y (oc (only1 o) f l c Sl0 Sl0) rfl rfl 32 _ hB.fy size32 rfl (oc_one (only1 o) f l c Sl0 Sl0) ?_
  have HBF : BZ w x y z (oc (only1 o) f l c Sl0 Sl0) (oc o f l c p i) zob _ := hB
  clear hB
  go_wp2
  refine bodyPost_ret (results_cell_row rfl _ _ y 32 (oc (only1 o) f l c Sl0 Sl0) (0, 0) _ rfl (setRow_heap _ _ _ _ _ _ HBF.fy) Try.underlying32 rfl size32) rfl ⟨rfl, ?_⟩
  exact HBF.b.trans ⟨rfl, rfl, rfl, by rw [size_setRow]; exact Nat.le_refl _, fun j hj => setRow_other _ _ _ _ (by rw [HY.out]; omega)⟩
set_option maxRecDepth 100000 in
set_option maxHeartbeats 4000000 in
theorem only2_any (o : Ob) (f l c p i : Sl) (hk : o.kind = 2) (w : World) :
    Calls Try.prog 81 #[.agg (oc o f l c p i)] w fun e w' => e = .returned (.agg (oc (only2 o) f l Sl0 p i)) ∧ Below w.heap.size w w' := by
  obtain ⟨w1, hw1, b1, p1, q1⟩ := two_boxes w (oc o f l c p i) zob
  obtain ⟨x, hx⟩ : ∃ x, x = w.heap.size := ⟨_, rfl⟩
  obtain ⟨y, hy⟩ : ∃ y, y = w.heap.size + 1 := ⟨_, rfl⟩
  rw [← hx] at p1
  rw [← hy] at q1
  have x0 : w1.cell? ⟨x, 0, none⟩ = some (.int .i64 o.kind) := by simp [World.cell?, p1, oc]
  have x1 : w1.cell? ⟨x, 1, none⟩ = some (.string o.name) := by simp [World.cell?, p1, oc]
  have x2 : w1.cell? ⟨x, 2, none⟩ = some (.int .i64 o.uid) := by simp [World.cell?, p1, oc]
  have x3 : w1.cell? ⟨x, 3, none⟩ = some (.int .i64 o.version) := by simp [World.cell?, p1, oc]
  have x4 : w1.cell? ⟨x, 4, none⟩ = some (.bool o.deleting) := by simp [World.cell?, p1, oc]
  have x5 : w1.cell? ⟨x, 5, none⟩ = some (.slice f.A o.fins.length f.c) := by simp [World.cell?, p1, oc]
  have x6 : w1.cell? ⟨x, 6, none⟩ = some (.slice l.A o.labels.length l.c) := by simp [World.cell?, p1, oc]
  obtain ⟨z, hz⟩ : ∃ z, z = w1.heap.size := ⟨_, rfl⟩
  have b2 := bel_allocRow w1 zob #[.int .i64 o.kind, .string o.name, .int .i64 o.uid, .int .i64 o.version, .bool o.deleting, .slice f.A o.fins.length f.c, .slice l.A o.labels.length l.c, .slice none 0 0, .string ⟨#[]⟩, .int .i64 0, .int .i64 0, .slice none 0 0, .slice none 0 0, .string ⟨#[]⟩, .string ⟨#[]⟩, .int .i64 0, .string ⟨#[]⟩, .string ⟨#[]⟩, .string ⟨#[]⟩] 32
  obtain ⟨w2, hw2⟩ : ∃ w2, w2 = (w1.alloc (.cells zob 32)).setRow w1.heap.size #[.int .i64 o.kind, .string o.name, .int .i64 o.uid, .int .i64 o.version, .bool o.deleting, .slice f.A o.fins.length f.c, .slice l.A o.labels.length l.c, .slice none 0 0, .string ⟨#[]⟩, .int .i64 0, .int .i64 0, .slice none 0 0, .slice none 0 0, .string ⟨#[]⟩, .string ⟨#[]⟩, .int .i64 0, .string ⟨#[]⟩, .string ⟨#[]⟩, .string ⟨#[]⟩] := ⟨_, rfl⟩
  rw [← hw2] at b2
  have f2 : w2.heap[z]? = some (.cells #[.int .i64 o.kind, .string o.name, .int .i64 o.uid, .int .i64 o.version, .bool o.deleting, .slice f.A o.fins.length f.c, .slice l.A o.labels.length l.c, .slice none 0 0, .string ⟨#[]⟩, .int .i64 0, .int .i64 0, .slice none 0 0, .slice none 0 0, .string ⟨#[]⟩, .string ⟨#[]⟩, .int .i64 0, .string ⟨#[]⟩, .string ⟨#[]⟩, .string ⟨#[]⟩] 32 (0, 0)) := by rw [hw2, hz]; exact setRow_heap _ _ _ _ _ _ (G.heap_new _ _)
  have hxz : x < w1.heap.size := (Array.getElem?_eq_some_iff.1 p1).1
  have hyz : y < w1.heap.size := (Array.getElem?_eq_some_iff.1 q1).1
  have hB0 : BZ w x y z #[.int .i64 o.kind, .string o.name, .int .i64 o.uid, .int .i64 o.version, .bool o.deleting, .slice f.A o.fins.length f.c, .slice l.A o.labels.length l.c, .slice none 0 0, .string ⟨#[]⟩, .int .i64 0, .int .i64 0, .slice none 0 0, .slice none 0 0, .string ⟨#[]⟩, .string ⟨#[]⟩, .int .i64 0, .string ⟨#[]⟩, .string ⟨#[]⟩, .string ⟨#[]⟩] (oc o f l c p i) zob w2 := ⟨f2, (b2.block x hxz).trans p1, (b2.block y hyz).trans q1, b1.trans (belowLe b1.size b2), by omega, by omega, by omega⟩
  have g : ∀ (cs : Array Value) (V : World), BZ w x y z cs (oc o f l c p i) zob V → ∀ j u, (oc o f l c p i)[j]? = some u → V.cell? ⟨x, j, none⟩ = some u := fun _ _ h j u hj => by simp [World.cell?, h.fx, hj]
  have hk1 : (o.kind == 1) = false := by rw [hk]; rfl
  have hk2 : (o.kind == 2) = true := by rw [hk]; rfl
  have hk3 : (o.kind == 3) = false := by rw [hk]; rfl
  have hk4 : (o.kind == 4) = false := by rw [hk]; rfl
  have HW := Lib.hid hw1
  have HW2 := Lib.hid hw2
  have HX := Lib.hid hx
  have HY := Lib.hid hy
  have HZ := Lib.hid hz
  have HB := Lib.hid hB0
  have GG := Lib.hid g
  clear b1 b2 p1 q1 hw1 hw2 f2 hxz hyz hB0 g hk
  go_enter Try.func81, Try.ntmps81
  go_upto_region 1 with (fail)
  rw [← HW.out, ← hy, ← hx]
  clear hx hy
  iterate 49 (first | go_values | go_skip | go_guarded | go_step)
  refine wpList_store_row rfl 32 (.tmp 3) (.tmp 18) rfl _ #[.int .i64 o.kind, .string o.name, .int .i64 o.uid, .int .i64 o.version, .bool o.deleting, .slice f.A o.fins.length f.c, .slice l.A o.labels.length l.c, .slice none 0 0, .string ⟨#[]⟩, .int .i64 0, .int .i64 0, .slice none 0 0, .slice none 0 0, .string ⟨#[]⟩, .string ⟨#[]⟩, .int .i64 0, .string ⟨#[]⟩, .string ⟨#[]⟩, .string ⟨#[]⟩] rfl rfl 32 _ (G.heap_new _ _) size32 rfl (oc_one (only0 o) f l Sl0 Sl0 Sl0) ?_
  rw [← HW2.out, ← hz]
  clear hz x0 x1 x2 x3 x4 x5 x6
  go_upto_region 2 with (fail)
  have x0 : w2.cell? ⟨x, 0, none⟩ = some (.int .i64 o.kind) := GG.out _ _ HB.out 0 _ rfl
  have hB := HB.out
  go_upto_region 7 with (fail)
  clear x0
  have xx := GG.out _ _ hB 9 (.int .i64 o.type) rfl
  have HBB := Lib.hid hB
  clear hB
  iterate 10 (first | go_values | go_skip | go_guarded | go_step)
  clear xx
  refine storeZ rfl 3 (.tmp 33) (.tmp 32) rfl rfl 9 rfl (.int .i64 o.type) rfl rfl (by kernel_rfl) HBB.out (Nat.lt_of_sub_eq_succ rfl) ?_
  clear HBB
  intro w19 hB0
  have hB : BZ w x y z #[.int .i64 o.kind, .string o.name, .int .i64 o.uid, .int .i64 o.version, .bool o.deleting, .slice f.A o.fins.length f.c, .slice l.A o.labels.length l.c, .slice none 0 0, .string ⟨#[]⟩, .int .i64 o.type, .int .i64 0, .slice none 0 0, .slice none 0 0, .string ⟨#[]⟩, .string ⟨#[]⟩, .int .i64 0, .string ⟨#[]⟩, .string ⟨#[]⟩, .string ⟨#[]⟩] (oc o f l c p i) zob w19 := hB0
  clear hB0
  go_upto_region 8 with (fail)
  have xx := GG.out _ _ hB 10 (.int .i64 o.policy) rfl
  have HBB := Lib.hid hB
  clear hB
  iterate 10 (first | go_values | go_skip | go_guarded | go_step)
  clear xx
  refine storeZ rfl 3 (.tmp 36) (.tmp 35) rfl rfl 10 rfl (.int .i64 o.policy) rfl rfl (by kernel_rfl) HBB.out (Nat.lt_of_sub_eq_succ rfl) ?_
  clear HBB
  intro w20 hB0
  have hB : BZ w x y z #[.int .i64 o.kind, .string o.name, .int .i64 o.uid, .int .i64 o.version, .bool o.deleting, .slice f.A o.fins.length f.c, .slice l.A o.labels.length l.c, .slice none 0 0, .string ⟨#[]⟩, .int .i64 o.type, .int .i64 o.policy, .slice none 0 0, .slice none 0 0, .string ⟨#[]⟩, .string ⟨#[]⟩, .int .i64 0, .string ⟨#[]⟩, .string ⟨#[]⟩, .string ⟨#[]⟩] (oc o f l c p i) zob w20 := hB0
  clear hB0
  go_upto_region 9 with (fail)
  have xx := GG.out _ _ hB 11 (.slice p.A o.fams.length p.c) rfl
  have HBB := Lib.hid hB
  clear hB
  iterate 10 (first | go_values | go_skip | go_guarded | go_step)
  clear xx
  refine storeZ rfl 30 (.tmp 39) (.tmp 38) rfl rfl 11 rfl (.slice p.A o.fams.length p.c) rfl rfl (by kernel_rfl) HBB.out (Nat.lt_of_sub_eq_succ rfl) ?_
  clear HBB
  intro w21 hB0
  have hB : BZ w x y z #[.int .i64 o.kind, .string o.name, .int .i64 o.uid, .int .i64 o.version, .bool o.deleting, .slice f.A o.fins.length f.c, .slice l.A o.labels.length l.c, .slice none 0 0, .string ⟨#[]⟩, .int .i64 o.type, .int .i64 o.policy, .slice p.A o.fams.length p.c, .slice none 0 0, .string ⟨#[]⟩, .string ⟨#[]⟩, .int .i64 0, .string ⟨#[]⟩, .string ⟨#[]⟩, .string ⟨#[]⟩] (oc o f l c p i) zob w21 := hB0
  clear hB0
  go_upto_region 10 with (fail)
  have xx := GG.out _ _ hB 12 (.slice i.A o.ips.length i.c) rfl
  have HBB := Lib.hid hB
  clear hB
  iterate 10 (first | go_values | go_skip | go_guarded | go_step)
  clear xx
  refine storeZ rfl 28 (.tmp 42) (.tmp 41) rfl rfl 12 rfl (.slice i.A o.ips.length i.c) rfl rfl (by kernel_rfl) HBB.out (Nat.lt_of_sub_eq_succ rfl) ?_
  clear HBB
  intro w22 hB0
  have hB : BZ w x y z #[.int .i64 o.kind, .string o.name, .int .i64 o.uid, .int .i64 o.version, .bool o.deleting, .slice f.A o.fins.length f.c, .slice l.A o.labels.length l.c, .slice none 0 0, .string ⟨#[]⟩, .int .i64 o.type, .int .i64 o.policy, .slice p.A o.fams.length p.c, .slice i.A o.ips.length i.c, .string ⟨#[]⟩, .string ⟨#[]⟩, .int .i64 0, .string ⟨#[]⟩, .string ⟨#[]⟩, .string ⟨#[]⟩] (oc o f l c p i) zob w22 := hB0
  clear hB0
  go_upto_region 19 with (fail)
  iterate 1 (first | go_values | go_skip | go_guarded | go_step)
  refine wpList_load_row rfl 32 (.tmp 3) rfl z rfl 32 _ (0, 0) _ hB.fz Try.underlying32 rfl size32 ?_
  refine wpList_store_row rfl 32 (.tmp 2) (.tmp 65) rfl y (oc (only2 o) f l Sl0 p i) rfl rfl 32 _ hB.fy size32 rfl (oc_one (only2 o) f l Sl0 p i) ?_
  have HBF : BZ w x y z (oc (only2 o) f l Sl0 p i) (oc o f l c p i) zob _ := hB
  clear hB
  go_wp2
  refine bodyPost_ret (results_cell_row rfl _ _ y 32 (oc (only2 o) f l Sl0 p i) (0, 0) _ rfl (setRow_heap _ _ _ _ _ _ HBF.fy) Try.underlying32 rfl size32) rfl ⟨rfl, ?_⟩
  exact HBF.b.trans ⟨rfl, rfl, rfl, by rw [size_setRow]; exact Nat.le_refl _, fun j hj => setRow_other _ _ _ _ (by rw [HY.out]; omega)⟩
set_option maxRecDepth 100000 in
set_option maxHeartbeats 4000000 in
theorem only3_any (o : Ob) (f l c p i : Sl) (hk : o.kind = 3) (w : World) :
    Calls Try.prog 81 #[.agg (oc o f l c p i)] w fun e w' => e = .returned (.agg (oc (only3 o) f l Sl0 Sl0 Sl0)) ∧ Below w.heap.size w w' := by
  obtain ⟨w1, hw1, b1, p1, q1⟩ := two_boxes w (oc o f l c p i) zob
  obtain ⟨x, hx⟩ : ∃ x, x = w.heap.size := ⟨_, rfl⟩
  obtain ⟨y, hy⟩ : ∃ y, y = w.heap.size + 1 := ⟨_, rfl⟩
  rw [← hx] at p1
  rw [← hy] at q1
  have x0 : w1.cell? ⟨x, 0, none⟩ = some (.int .i64 o.kind) := by simp [World.cell?, p1, oc]
  have x1 : w1.cell? ⟨x, 1, none⟩ = some (.string o.name) := by simp [World.cell?, p1, oc]
  have x2 : w1.cell? ⟨x, 2, none⟩ = some (.int .i64 o.uid) := by simp [World.cell?, p1, oc]
  have x3 : w1.cell? ⟨x, 3, none⟩ = some (.int .i64 o.version) := by simp [World.cell?, p1, oc]
  have x4 : w1.cell? ⟨x, 4, none⟩ = some (.bool o.deleting) := by simp [World.cell?, p1, oc]
  have x5 : w1.cell? ⟨x, 5, none⟩ = some (.slice f.A o.fins.length f.c) := by simp [World.cell?, p1, oc]
  have x6 : w1.cell? ⟨x, 6, none⟩ = some (.slice l.A o.labels.length l.c) := by simp [World.cell?, p1, oc]
  obtain ⟨z, hz⟩ : ∃ z, z = w1.heap.size := ⟨_, rfl⟩
  have b2 := bel_allocRow w1 zob #[.int .i64 o.kind, .string o.name, .int .i64 o.uid, .int .i64 o.version, .bool o.deleting, .slice f.A o.fins.length f.c, .slice l.A o.labels.length l.c, .slice none 0 0, .string ⟨#[]⟩, .int .i64 0, .int .i64 0, .slice none 0 0, .slice none 0 0, .string ⟨#[]⟩, .string ⟨#[]⟩, .int .i64 0, .string ⟨#[]⟩, .string ⟨#[]⟩, .string ⟨#[]⟩] 32
  obtain ⟨w2, hw2⟩ : ∃ w2, w2 = (w1.alloc (.cells zob 32)).setRow w1.heap.size #[.int .i64 o.kind, .string o.name, .int .i64 o.uid, .int .i64 o.version, .bool o.deleting, .slice f.A o.fins.length f.c, .slice l.A o.labels.length l.c, .slice none 0 0, .string ⟨#[]⟩, .int .i64 0, .int .i64 0, .slice none 0 0, .slice none 0 0, .string ⟨#[]⟩, .string ⟨#[]⟩, .int .i64 0, .string ⟨#[]⟩, .string ⟨#[]⟩, .string ⟨#[]⟩] := ⟨_, rfl⟩
  rw [← hw2] at b2
  have f2 : w2.heap[z]? = some (.cells #[.int .i64 o.kind, .string o.name, .int .i64 o.uid, .int .i64 o.version, .bool o.deleting, .slice f.A o.fins.length f.c, .slice l.A o.labels.length l.c, .slice none 0 0, .string ⟨#[]⟩, .int .i64 0, .int .i64 0, .slice none 0 0, .slice none 0 0, .string ⟨#[]⟩, .string ⟨#[]⟩, .int .i64 0, .string ⟨#[]⟩, .string ⟨#[]⟩, .string ⟨#[]⟩] 32 (0, 0)) := by rw [hw2, hz]; exact setRow_heap _ _ _ _ _ _ (G.heap_new _ _)
  have hxz : x < w1.heap.size := (Array.getElem?_eq_some_iff.1 p1).1
  have hyz : y < w1.heap.size := (Array.getElem?_eq_some_iff.1 q1).1
  have hB0 : BZ w x y z #[.int .i64 o.kind, .string o.name, .int .i64 o.uid, .int .i64 o.version, .bool o.deleting, .slice f.A o.fins.length f.c, .slice l.A o.labels.length l.c, .slice none 0 0, .string ⟨#[]⟩, .int .i64 0, .int .i64 0, .slice none 0 0, .slice none 0 0, .string ⟨#[]⟩, .string ⟨#[]⟩, .int .i64 0, .string ⟨#[]⟩, .string ⟨#[]⟩, .string ⟨#[]⟩] (oc o f l c p i) zob w2 := ⟨f2, (b2.block x hxz).trans p1, (b2.block y hyz).trans q1, b1.trans (belowLe b1.size b2), by omega, by omega, by omega⟩
  have g : ∀ (cs : Array Value) (V : World), BZ w x y z cs (oc o f l c p i) zob V → ∀ j u, (oc o f l c p i)[j]? = some u → V.cell? ⟨x, j, none⟩ = some u := fun _ _ h j u hj => by simp [World.cell?, h.fx, hj]
  have hk1 : (o.kind == 1) = false := by rw [hk]; rfl
  have hk2 : (o.kind == 2) = false := by rw [hk]; rfl
  have hk3 : (o.kind == 3) = true := by rw [hk]; rfl
  have hk4 : (o.kind == 4) = false := by rw [hk]; rfl
  have HW := Lib.hid hw1
  have HW2 := Lib.hid hw2
  have HX := Lib.hid hx
  have HY := Lib.hid hy
  have HZ := Lib.hid hz
  have HB := Lib.hid hB0
  have GG := Lib.hid g
  clear b1 b2 p1 q1 hw1 hw2 f2 hxz hyz hB0 g hk
  go_enter Try.func81, Try.ntmps81
  go_upto_region 1 with (fail)
  rw [← HW.out, ← hy, ← hx]
  clear hx hy
  iterate 49 (first | go_values | go_skip | go_guarded | go_step)
  refine wpList_store_row rfl 32 (.tmp 3) (.tmp 18) rfl _ #[.int .i64 o.kind, .string o.name, .int .i64 o.uid, .int .i64 o.version, .bool o.deleting, .slice f.A o.fins.length f.c, .slice l.A o.labels.length l.c, .slice none 0 0, .string ⟨#[]⟩, .int .i64 0, .int .i64 0, .slice none 0 0, .slice none 0 0, .string ⟨#[]⟩, .string ⟨#[]⟩, .int .i64 0, .string ⟨#[]⟩, .string ⟨#[]⟩, .string ⟨#[]⟩] rfl rfl 32 _ (G.heap_new _ _) size32 rfl (oc_one (only0 o) f l Sl0 Sl0 Sl0) ?_
  rw [← HW2.out, ← hz]
  clear hz x0 x1 x2 x3 x4 x5 x6
  go_upto_region 2 with (fail)
  have x0 : w2.cell? ⟨x, 0, none⟩ = some (.int .i64 o.kind) := GG.out _ _ HB.out 0 _ rfl
  have hB := HB.out
  go_upto_region 12 with (fail)
  clear x0
  have xx := GG.out _ _ hB 13 (.string o.v4) rfl
  have HBB := Lib.hid hB
  clear hB
  iterate 10 (first | go_values | go_skip | go_guarded | go_step)
  clear xx
  refine storeZ rfl 9 (.tmp 47) (.tmp 46) rfl rfl 13 rfl (.string o.v4) rfl rfl (by kernel_rfl) HBB.out (Nat.lt_of_sub_eq_succ rfl) ?_
  clear HBB
  intro w23 hB0
  have hB : BZ w x y z #[.int .i64 o.kind, .string o.name, .int .i64 o.uid, .int .i64 o.version, .bool o.deleting, .slice f.A o.fins.length f.c, .slice l.A o.labels.length l.c, .slice none 0 0, .string ⟨#[]⟩, .int .i64 0, .int .i64 0, .slice none 0 0, .slice none 0 0, .string o.v4, .string ⟨#[]⟩, .int .i64 0, .string ⟨#[]⟩, .string ⟨#[]⟩, .string ⟨#[]⟩] (oc o f l c p i) zob w23 := hB0
  clear hB0
  go_upto_region 13 with (fail)
  have xx := GG.out _ _ hB 14 (.string o.v6) rfl
  have HBB := Lib.hid hB
  clear hB
  iterate 10 (first | go_values | go_skip | go_guarded | go_step)
  clear xx
  refine storeZ rfl 9 (.tmp 50) (.tmp 49) rfl rfl 14 rfl (.string o.v6) rfl rfl (by kernel_rfl) HBB.out (Nat.lt_of_sub_eq_succ rfl) ?_
  clear HBB
  intro w24 hB0
  have hB : BZ w x y z #[.int .i64 o.kind, .string o.name, .int .i64 o.uid, .int .i64 o.version, .bool o.deleting, .slice f.A o.fins.length f.c, .slice l.A o.labels.length l.c, .slice none 0 0, .string ⟨#[]⟩, .int .i64 0, .int .i64 0, .slice none 0 0, .slice none 0 0, .string o.v4, .string o.v6, .int .i64 0, .string ⟨#[]⟩, .string ⟨#[]⟩, .string ⟨#[]⟩] (oc o f l c p i) zob w24 := hB0
  clear hB0
  go_upto_region 14 with (fail)
  have xx := GG.out _ _ hB 15 (.int .i64 o.bits) rfl
  have HBB := Lib.hid hB
  clear hB
  iterate 10 (first | go_values | go_skip | go_guarded | go_step)
  clear xx
  refine storeZ rfl 3 (.tmp 53) (.tmp 52) rfl rfl 15 rfl (.int .i64 o.bits) rfl rfl (by kernel_rfl) HBB.out (Nat.lt_of_sub_eq_succ rfl) ?_
  clear HBB
  intro w25 hB0
  have hB : BZ w x y z #[.int .i64 o.kind, .string o.name, .int .i64 o.uid, .int .i64 o.version, .bool o.deleting, .slice f.A o.fins.length f.c, .slice l.A o.labels.length l.c, .slice none 0 0, .string ⟨#[]⟩, .int .i64 0, .int .i64 0, .slice none 0 0, .slice none 0 0, .string o.v4, .string o.v6, .int .i64 o.bits, .string ⟨#[]⟩, .string ⟨#[]⟩, .string ⟨#[]⟩] (oc o f l c p i) zob w25 := hB0
  clear hB0
  go_upto_region 15 with (fail)
  have xx := GG.out _ _ hB 16 (.string o.sel) rfl
  have HBB := Lib.hid hB
  clear hB
  iterate 10 (first | go_values | go_skip | go_guarded | go_step)
  clear xx
  refine storeZ rfl 9 (.tmp 56) (.tmp 55) rfl rfl 16 rfl (.string o.sel) rfl rfl (by kernel_rfl) HBB.out (Nat.lt_of_sub_eq_succ rfl) ?_
  clear HBB
  intro w26 hB0
  have hB : BZ w x y z #[.int .i64 o.kind, .string o.name, .int .i64 o.uid, .int .i64 o.version, .bool o.deleting, .slice f.A o.fins.length f.c, .slice l.A o.labels.length l.c, .slice none 0 0, .string ⟨#[]⟩, .int .i64 0, .int .i64 0, .slice none 0 0, .slice none 0 0, .string o.v4, .string o.v6, .int .i64 o.bits, .string o.sel, .string ⟨#[]⟩, .string ⟨#[]⟩] (oc o f l c p i) zob w26 := hB0
  clear hB0
  go_upto_region 19 with (fail)
  iterate 1 (first | go_values | go_skip | go_guarded | go_step)
  refine wpList_load_row rfl 32 (.tmp 3) rfl z rfl 32 _ (0, 0) _ hB.fz Try.underlying32 rfl size32 ?_
  refine wpList_store_row rfl 32 (.tmp 2) (.tmp 65) rfl y (oc (only3 o) f l Sl0 Sl0 Sl0) rfl rfl 32 _ hB.fy size32 rfl (oc_one (only3 o) f l Sl0 Sl0 Sl0) ?_
  have HBF : BZ w x y z (oc (only3 o) f l Sl0 Sl0 Sl0) (oc o f l c p i) zob _ := hB
  clear hB
  go_wp2
  refine bodyPost_ret (results_cell_row rfl _ _ y 32 (oc (only3 o) f l Sl0 Sl0 Sl0) (0, 0) _ rfl (setRow_heap _ _ _ _ _ _ HBF.fy) Try.underlying32 rfl size32) rfl ⟨rfl, ?_⟩
  exact HBF.b.trans ⟨rfl, rfl, rfl, by rw [size_setRow]; exact Nat.le_refl _, fun j hj => setRow_other _ _ _ _ (by rw [HY.out]; omega)⟩
set_option maxRecDepth 100000 in
set_option maxHeartbeats 4000000 in
theorem only4_any (o : Ob) (f l c p i : Sl) (hk : o.kind = 4) (w : World) :
    Calls Try.prog 81 #[.agg (oc o f l c p i)] w fun e w' => e = .returned (.agg (oc (only4 o) f l Sl0 Sl0 Sl0)) ∧ Below w.heap.size w w' := by
  obtain ⟨w1, hw1, b1, p1, q1⟩ := two_boxes w (oc o f l c p i) zob
  obtain ⟨x, hx⟩ : ∃ x, x = w.heap.size := ⟨_, rfl⟩
  obtain ⟨y, hy⟩ : ∃ y, y = w.heap.size + 1 := ⟨_, rfl⟩
  rw [← hx] at p1
  rw [← hy] at q1
  have x0 : w1.cell? ⟨x, 0, none⟩ = some (.int .i64 o.kind) := by simp [World.cell?, p1, oc]
  have x1 : w1.cell? ⟨x, 1, none⟩ = some (.string o.name) := by simp [World.cell?, p1, oc]
  have x2 : w1.cell? ⟨x, 2, none⟩ = some (.int .i64 o.uid) := by simp [World.cell?, p1, oc]
  have x3 : w1.cell? ⟨x, 3, none⟩ = some (.int .i64 o.version) := by simp [World.cell?, p1, oc]
  have x4 : w1.cell? ⟨x, 4, none⟩ = some (.bool o.deleting) := by simp [World.cell?, p1, oc]
  have x5 : w1.cell? ⟨x, 5, none⟩ = some (.slice f.A o.fins.length f.c) := by simp [World.cell?, p1, oc]
  have x6 : w1.cell? ⟨x, 6, none⟩ = some (.slice l.A o.labels.length l.c) := by simp [World.cell?, p1, oc]
  obtain ⟨z, hz⟩ : ∃ z, z = w1.heap.size := ⟨_, rfl⟩
  have b2 := bel_allocRow w1 zob #[.int .i64 o.kind, .string o.name, .int .i64 o.uid, .int .i64 o.version, .bool o.deleting, .slice f.A o.fins.length f.c, .slice l.A o.labels.length l.c, .slice none 0 0, .string ⟨#[]⟩, .int .i64 0, .int .i64 0, .slice none 0 0, .slice none 0 0, .string ⟨#[]⟩, .string ⟨#[]⟩, .int .i64 0, .string ⟨#[]⟩, .string ⟨#[]⟩, .string ⟨#[]⟩] 32
  obtain ⟨w2, hw2⟩ : ∃ w2, w2 = (w1.alloc (.cells zob 32)).setRow w1.heap.size #[.int .i64 o.kind, .string o.name, .int .i64 o.uid, .int .i64 o.version, .bool o.deleting, .slice f.A o.fins.length f.c, .slice l.A o.labels.length l.c, .slice none 0 0, .string ⟨#[]⟩, .int .i64 0, .int .i64 0, .slice none 0 0, .slice none 0 0, .string ⟨#[]⟩, .string ⟨#[]⟩, .int .i64 0, .string ⟨#[]⟩, .string ⟨#[]⟩, .string ⟨#[]⟩] := ⟨_, rfl⟩
  rw [← hw2] at b2
  have f2 : w2.heap[z]? = some (.cells #[.int .i64 o.kind, .string o.name, .int .i64 o.uid, .int .i64 o.version, .bool o.deleting, .slice f.A o.fins.length f.c, .slice l.A o.labels.length l.c, .slice none 0 0, .string ⟨#[]⟩, .int .i64 0, .int .i64 0, .slice none 0 0, .slice none 0 0, .string ⟨#[]⟩, .string ⟨#[]⟩, .int .i64 0, .string ⟨#[]⟩, .string ⟨#[]⟩, .string ⟨#[]⟩] 32 (0, 0)) := by rw [hw2, hz]; exact setRow_heap _ _ _ _ _ _ (G.heap_new _ _)
  have hxz : x < w1.heap.size := (Array.getElem?_eq_some_iff.1 p1).1
  have hyz : y < w1.heap.size := (Array.getElem?_eq_some_iff.1 q1).1
  have hB0 : BZ w x y z #[.int .i64 o.kind, .string o.name, .int .i64 o.uid, .int .i64 o.version, .bool o.deleting, .slice f.A o.fins.length f.c, .slice l.A o.labels.length l.c, .slice none 0 0, .string ⟨#[]⟩, .int .i64 0, .int .i64 0, .slice none 0 0, .slice none 0 0, .string ⟨#[]⟩, .string ⟨#[]⟩, .int .i64 0, .string ⟨#[]⟩, .string ⟨#[]⟩, .string ⟨#[]⟩] (oc o f l c p i) zob w2 := ⟨f2, (b2.block x hxz).trans p1, (b2.block y hyz).trans q1, b1.trans (belowLe b1.size b2), by omega, by omega, by omega⟩
  have g : ∀ (cs : Array Value) (V : World), BZ w x y z cs (oc o f l c p i) zob V → ∀ j u, (oc o f l c p i)[j]? = some u → V.cell? ⟨x, j, none⟩ = some u := fun _ _ h j u hj => by simp [World.cell?, h.fx, hj]
  have hk1 : (o.kind == 1) = false := by rw [hk]; rfl
  have hk2 : (o.kind == 2) = false := by rw [hk]; rfl
  have hk3 : (o.kind == 3) = false := by rw [hk]; rfl
  have hk4 : (o.kind == 4) = true := by rw [hk]; rfl
  have HW := Lib.hid hw1
  have HW2 := Lib.hid hw2
  have HX := Lib.hid hx
  have HY := Lib.hid hy
  have HZ := Lib.hid hz
  have HB := Lib.hid hB0
  have GG := Lib.hid g
  clear b1 b2 p1 q1 hw1 hw2 f2 hxz hyz hB0 g hk
  go_enter Try.func81, Try.ntmps81
  go_upto_region 1 with (fail)
  rw [← HW.out, ← hy, ← hx]
  clear hx hy
  iterate 49 (first | go_values | go_skip | go_guarded | go_step)
  refine wpList_store_row rfl 32 (.tmp 3) (.tmp 18) rfl _ #[.int .i64 o.kind, .string o.name, .int .i64 o.uid, .int .i64 o.version, .bool o.deleting, .slice f.A o.fins.length f.c, .slice l.A o.labels.length l.c, .slice none 0 0, .string ⟨#[]⟩, .int .i64 0, .int .i64 0, .slice none 0 0, .slice none 0 0, .string ⟨#[]⟩, .string ⟨#[]⟩, .int .i64 0, .string ⟨#[]⟩, .string ⟨#[]⟩, .string ⟨#[]⟩] rfl rfl 32 _ (G.heap_new _ _) size32 rfl (oc_one (only0 o) f l Sl0 Sl0 Sl0) ?_
  rw [← HW2.out, ← hz]
  clear hz x0 x1 x2 x3 x4 x5 x6
  go_upto_region 2 with (fail)
  have x0 : w2.cell? ⟨x, 0, none⟩ = some (.int .i64 o.kind) := GG.out _ _ HB.out 0 _ rfl
  have hB := HB.out
  go_upto_region 17 with (fail)
  clear x0
  have xx := GG.out _ _ hB 17 (.string o.about) rfl
  have HBB := Lib.hid hB
  clear hB
  iterate 10 (first | go_values | go_skip | go_guarded | go_step)
  clear xx
  refine storeZ rfl 9 (.tmp 61) (.tmp 60) rfl rfl 17 rfl (.string o.about) rfl rfl (by kernel_rfl) HBB.out (Nat.lt_of_sub_eq_succ rfl) ?_
  clear HBB
  intro w27 hB0
  have hB : BZ w x y z #[.int .i64 o.kind, .string o.name, .int .i64 o.uid, .int .i64 o.version, .bool o.deleting, .slice f.A o.fins.length f.c, .slice l.A o.labels.length l.c, .slice none 0 0, .string ⟨#[]⟩, .int .i64 0, .int .i64 0, .slice none 0 0, .slice none 0 0, .string ⟨#[]⟩, .string ⟨#[]⟩, .int .i64 0, .string ⟨#[]⟩, .string o.about, .string ⟨#[]⟩] (oc o f l c p i) zob w27 := hB0
  clear hB0
  go_upto_region 18 with (fail)
  have xx := GG.out _ _ hB 18 (.string o.reason) rfl
  have HBB := Lib.hid hB
  clear hB
  iterate 10 (first | go_values | go_skip | go_guarded | go_step)
  clear xx
  refine storeZ rfl 9 (.tmp 64) (.tmp 63) rfl rfl 18 rfl (.string o.reason) rfl rfl (by kernel_rfl) HBB.out (Nat.lt_of_sub_eq_succ rfl) ?_
  clear HBB
  intro w28 hB0
  have hB : BZ w x y z #[.int .i64 o.kind, .string o.name, .int .i64 o.uid, .int .i64 o.version, .bool o.deleting, .slice f.A o.fins.length f.c, .slice l.A o.labels.length l.c, .slice none 0 0, .string ⟨#[]⟩, .int .i64 0, .int .i64 0, .slice none 0 0, .slice none 0 0, .string ⟨#[]⟩, .string ⟨#[]⟩, .int .i64 0, .string ⟨#[]⟩, .string o.about, .string o.reason] (oc o f l c p i) zob w28 := hB0
  clear hB0
  go_upto_region 19 with (fail)
  iterate 1 (first | go_values | go_skip | go_guarded | go_step)
  refine wpList_load_row rfl 32 (.tmp 3) rfl z rfl 32 _ (0, 0) _ hB.fz Try.underlying32 rfl size32 ?_
  refine wpList_store_row rfl 32 (.tmp 2) (.tmp 65) rfl y (oc (only4 o) f l Sl0 Sl0 Sl0) rfl rfl 32 _ hB.fy size32 rfl (oc_one (only4 o) f l Sl0 Sl0 Sl0) ?_
  have HBF : BZ w x y z (oc (only4 o) f l Sl0 Sl0 Sl0) (oc o f l c p i) zob _ := hB
  clear hB
  go_wp2
  refine bodyPost_ret (results_cell_row rfl _ _ y 32 (oc (only4 o) f l Sl0 Sl0 Sl0) (0, 0) _ rfl (setRow_heap _ _ _ _ _ _ HBF.fy) Try.underlying32 rfl size32) rfl ⟨rfl, ?_⟩
  exact HBF.b.trans ⟨rfl, rfl, rfl, by rw [size_setRow]; exact Nat.le_refl _, fun j hj => setRow_other _ _ _ _ (by rw [HY.out]; omega)⟩
theorem only_any (o : Ob) (f l c p i : Sl) (hk : 1 ≤ o.kind ∧ o.kind ≤ 4) (w : World) (hr : RowsR w o f l c p i) :
    Calls Try.prog 81 #[.agg (oc o f l c p i)] w fun e w' => ∃ f' l' c' p' i', e = .returned (.agg (oc (onlyO o) f' l' c' p' i')) ∧ RowsR w' (onlyO o) f' l' c' p' i' ∧ Below w.heap.size w w' := by
  have n0 : ∀ V (A : Option Addr), RowR V A [] := fun V A => RowR.nil V A
  rcases (by omega : o.kind = 1 ∨ o.kind = 2 ∨ o.kind = 3 ∨ o.kind = 4) with h | h | h | h
  · have hb : onlyO o = only1 o := if_pos h
    rw [hb]
    refine (only1_any o f l c p i h w).mono ?_
    rintro e w' ⟨rfl, hb⟩
    have k := hr.below hb
    exact ⟨_, _, _, _, _, rfl, ⟨k.fr, k.lr, k.cr, n0 _ _, n0 _ _⟩, hb⟩
  · have hb : onlyO o = only2 o := by unfold onlyO; rw [if_neg (by omega), if_pos h]
    rw [hb]
    refine (only2_any o f l c p i h w).mono ?_
    rintro e w' ⟨rfl, hb⟩
    have k := hr.below hb
    exact ⟨_, _, _, _, _, rfl, ⟨k.fr, k.lr, n0 _ _, k.pr, k.ir⟩, hb⟩
  · have hb : onlyO o = only3 o := by unfold onlyO; rw [if_neg (by omega), if_neg (by omega), if_pos h]
    rw [hb]
    refine (only3_any o f l c p i h w).mono ?_
    rintro e w' ⟨rfl, hb⟩
    have k := hr.below hb
    exact ⟨_, _, _, _, _, rfl, ⟨k.fr, k.lr, n0 _ _, n0 _ _, n0 _ _⟩, hb⟩
  · have hb : onlyO o = only4 o := by unfold onlyO; rw [if_neg (by omega), if_neg (by omega), if_neg (by omega)]
    rw [hb]
    refine (only4_any o f l c p i h w).mono ?_
    rintro e w' ⟨rfl, hb⟩
    have k := hr.below hb
    exact ⟨_, _, _, _, _, rfl, ⟨k.fr, k.lr, n0 _ _, n0 _ _, n0 _ _⟩, hb⟩
theorem only_same (o : Ob) (hk : 1 ≤ o.kind ∧ o.kind ≤ 4) : sameB o (onlyO o) = only o := by
  have he : (⟨#[]⟩ : ByteArray) = ByteArray.empty := rfl
  rcases (by omega : o.kind = 1 ∨ o.kind = 2 ∨ o.kind = 3 ∨ o.kind = 4) with h | h | h | h
  · have hb : onlyO o = only1 o := if_pos h
    rw [hb]
    rw [Bool.eq_iff_iff]
    simp only [sameB, flatB, Bool.and_eq_true, decide_eq_true_eq]
    simp [only1, only0, zeroOb, only, h, size0]
    constructor <;> (intro hh; (try simp only [he] at hh ⊢); simp_all)
  · have hb : onlyO o = only2 o := by unfold onlyO; rw [if_neg (by omega), if_pos h]
    rw [hb]
    rw [Bool.eq_iff_iff]
    simp only [sameB, flatB, Bool.and_eq_true, decide_eq_true_eq]
    simp [only2, only0, zeroOb, only, h, size0]
    constructor <;> (intro hh; (try simp only [he] at hh ⊢); simp_all)
  · have hb : onlyO o = only3 o := by unfold onlyO; rw [if_neg (by omega), if_neg (by omega), if_pos h]
    rw [hb]
    rw [Bool.eq_iff_iff]
    simp only [sameB, flatB, Bool.and_eq_true, decide_eq_true_eq]
    simp [only3, only0, zeroOb, only, h, size0]
    constructor <;> (intro hh; (try simp only [he] at hh ⊢); simp_all)
  · have hb : onlyO o = only4 o := by unfold onlyO; rw [if_neg (by omega), if_neg (by omega), if_neg (by omega)]
    rw [hb]
    rw [Bool.eq_iff_iff]
    simp only [sameB, flatB, Bool.and_eq_true, decide_eq_true_eq]
    simp [only4, only0, zeroOb, only, h, size0]
    constructor <;> (intro hh; (try simp only [he] at hh ⊢); simp_all)
end Go.Proofs.Ytolndeolehkjoaa
