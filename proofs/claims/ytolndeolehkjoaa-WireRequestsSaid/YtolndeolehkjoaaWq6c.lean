/- Requests: what stands behind the operation. -/
import Derived.Test.YtolndeolehkjoaaWq5c
namespace Go.Proofs.Ytolndeolehkjoaa
set_option linter.unusedVariables false
set_option linter.unusedSimpArgs false
open Go.RowKit CodP
def from1 (s : ByteArray) : ByteArray := s.extract 1 s.size
def nameS (s : ByteArray) : ByteArray := s.extract 1 (1 + (byte0 s).toNat)
def behS (s : ByteArray) : ByteArray := s.extract (1 + (byte0 s).toNat) s.size
def endS (q : Rq) (s : ByteArray) : Rq × Bool := if q.op = 3 then ({ q with version := (numOf s).1 }, decide ((numOf s).2 = 0)) else (q, decide (s.size = 0))
def restS (q : Rq) (s : ByteArray) : Rq × Bool :=
  if s.size = 0 then (q, false) else if q.op = 5 then ({ q with kind := byte0 s }, decide ((from1 s).size = 0))
  else if (from1 s).size = 0 ∨ byte0 (from1 s) > (from1 s).size - 1 then ({ q with kind := byte0 s }, false)
  else endS { q with kind := byte0 s, name := nameS (from1 s) } (behS (from1 s))
theorem ix0 (s : ByteArray) (h : 0 < s.size) (W : World) : (Instr.index 9 (.string s) (.int .i64 0)).run Try.prog W = .ok (.int .u8 (byte0 s)) W := by
  have e := byte0_at s h
  rw [run_index_string (P := Try.prog) (w := W) 9 s .i64 0 Try.underlying9, dif_pos ⟨by omega, by omega⟩, ← e]
  rfl
theorem sl1 (s : ByteArray) (l : Int) (a : Nat) (ha : l = a) (h : a ≤ s.size) (W : World) : (Instr.slice 9 (.string s) (some (.int .i64 l)) none none).run Try.prog W = .ok (.string (s.extract a s.size)) W := by
  subst ha
  have := run_slice_string_l (P := Try.prog) (w := W) (t := 9) (s := s) Try.underlying9 .i64 (a : Int) (by omega) (by omega)
  simpa using this
theorem BQ.drew {w0 w : World} {z x y : Nat} {cs xs ys : Array Value} (h : BQ w0 z x y cs xs ys w) : BQ w0 z x y cs xs ys w.drew := ⟨h.fz, h.fx, h.fy, G.bdrew h.b, h.ne⟩
theorem wp_storeQ {P : Program} {o : Oper} {a : Act} {w w0 : World} {K : Act → World → Prop} {Q : Exit → Act → World → Prop} {z x y : Nat} {cs xs ys : Array Value} (ty : TypeId) (p q : Operand) (ho : o.op = .store ty p q) (hd : o.dst = none)
    (j : Nat) (hx : a.eval p = .pointer (some ⟨z, j, none⟩)) (v : Value) (hv : a.eval q = v) (h1 : v.oneCell' = true) (hi : (P.info? ty).map (·.size) = some 1) (hB : BQ w0 z x y cs xs ys w) (hj : j < cs.size)
    (h : ∀ w', BQ w0 z x y (cs.setIfInBounds j v) xs ys w' → K a w') : o.wp P a w K Q := by
  unfold Oper.wp execOp
  simp only [ho, hx, hv, Instr.storeAt, Instr.sureAddr, Sem.run_bind, Sem.run_pure, Result.andThen_ok, run_storeVar_field w z j ty 51 cs v hB.fz hj hi h1]
  have e : a.put o.dst undef = a := by rw [hd]; rfl
  show K (a.put o.dst undef) _
  rw [e]
  exact h _ ⟨heap_setCell_same _ _ _ _ _ _ hB.fz, fun hzx => (Below.heap_setCell _ _ _ _ (fun e => hzx e.symm)).trans (hB.fx hzx), (Below.heap_setCell _ _ _ _ hB.ne.1).trans hB.fy, hB.b.setCell (p := ⟨z, j, none⟩) hB.ne.2 _, hB.ne⟩
theorem empty_of {s : ByteArray} (h : s.size = 0) : s.toList.isEmpty = true := by rw [size0.1 h]; decide +kernel
set_option maxRecDepth 100000 in
set_option maxHeartbeats 4000000 in
theorem rest_n (q : Rq) (f l c p i : Sl) (s : ByteArray) (hs : s.size ≤ 500000) (h0 : s.size = 0) (w : World) :
    Calls Try.prog 58 #[.agg (rq q f l c p i), .string s] w fun e w' => e = .returned (.tuple #[.agg (rq (restS q s).1 f l c p i), .bool (restS q s).2]) ∧ Below w.heap.size w w' := by
  obtain ⟨w1, hw1, b1, p1, q1⟩ := two_rqs w (rq q f l c p i) zrq
  obtain ⟨x, hx⟩ : ∃ x, x = w.heap.size := ⟨_, rfl⟩
  obtain ⟨y, hy⟩ : ∃ y, y = w.heap.size + 1 := ⟨_, rfl⟩
  rw [← hx] at p1
  rw [← hy] at q1
  have hB0 : BQ w x x y (rq q f l c p i) #[] zrq w1 := ⟨p1, fun h => absurd rfl h, q1, b1, by omega, by omega⟩
  have HB := Lib.hid hB0
  have hS : restS q s = (q, false) := by unfold restS; exact if_pos h0
  have HS := Lib.hid hS
  have HW := Lib.hid hw1
  have HY := Lib.hid hy
  have e0 : s.toList.isEmpty = true := empty_of h0
  clear b1 p1 q1 hw1 hB0 hS h0
  go_enter Try.func58, Try.ntmps58
  go_upto_region 1 with (fail)
  rw [← HW.out, ← hy, ← hx]
  clear hx hy
  have hB := HB.out
  go_upto_region 2 with (fail)
  iterate 1 (first | go_values | go_skip | go_guarded | go_step)
  refine wpList_load_row rfl 51 (.tmp 2) rfl x rfl 51 _ (0, 0) _ hB.fz Try.underlying51 rfl size51 ?_
  refine wpList_store_row rfl 51 (.tmp 4) (.tmp 11) rfl y #[.int .i64 q.op, .int .i64 q.ob.kind, .string q.ob.name, .int .i64 q.ob.uid, .int .i64 q.ob.version, .bool q.ob.deleting, .slice f.A q.ob.fins.length f.c, .slice l.A q.ob.labels.length l.c, .slice c.A q.ob.cidrs.length c.c, .string q.ob.status, .int .i64 q.ob.type, .int .i64 q.ob.policy, .slice p.A q.ob.fams.length p.c, .slice i.A q.ob.ips.length i.c, .string q.ob.v4, .string q.ob.v6, .int .i64 q.ob.bits, .string q.ob.sel, .string q.ob.about, .string q.ob.reason, .int .i64 q.kind, .string q.name, .int .i64 q.version] rfl rfl 51 _ hB.fy size51 rfl (by simp [Value.oneCell', zrq]) ?_
  have HBF := Lib.hid hB
  clear hB
  go_wp2
  refine bodyPost_ret (results_ct rfl _ _ y 51 #[.int .i64 q.op, .int .i64 q.ob.kind, .string q.ob.name, .int .i64 q.ob.uid, .int .i64 q.ob.version, .bool q.ob.deleting, .slice f.A q.ob.fins.length f.c, .slice l.A q.ob.labels.length l.c, .slice c.A q.ob.cidrs.length c.c, .string q.ob.status, .int .i64 q.ob.type, .int .i64 q.ob.policy, .slice p.A q.ob.fams.length p.c, .slice i.A q.ob.ips.length i.c, .string q.ob.v4, .string q.ob.v6, .int .i64 q.ob.bits, .string q.ob.sel, .string q.ob.about, .string q.ob.reason, .int .i64 q.kind, .string q.name, .int .i64 q.version] (0, 0) _ rfl (setRow_heap _ _ _ _ _ _ HBF.out.fy) Try.underlying51 rfl size51) rfl ⟨?_, ?_⟩
  · rw [HS.out]; rfl
  · exact HBF.out.b.trans ⟨rfl, rfl, rfl, by rw [size_setRow]; exact Nat.le_refl _, fun j hj => setRow_other _ _ _ _ (by rw [HY.out]; omega)⟩
set_option maxRecDepth 100000 in
set_option maxHeartbeats 4000000 in
theorem rest_5a (q : Rq) (f l c p i : Sl) (s : ByteArray) (hs : s.size ≤ 500000) (h0 : ¬ s.size = 0) (h5 : q.op = 5) (h1 : (from1 s).size = 0) (w : World) :
    Calls Try.prog 58 #[.agg (rq q f l c p i), .string s] w fun e w' => e = .returned (.tuple #[.agg (rq (restS q s).1 f l c p i), .bool (restS q s).2]) ∧ Below w.heap.size w w' := by
  obtain ⟨w1, hw1, b1, p1, q1⟩ := two_rqs w (rq q f l c p i) zrq
  obtain ⟨x, hx⟩ : ∃ x, x = w.heap.size := ⟨_, rfl⟩
  obtain ⟨y, hy⟩ : ∃ y, y = w.heap.size + 1 := ⟨_, rfl⟩
  rw [← hx] at p1
  rw [← hy] at q1
  have hB0 : BQ w x x y (rq q f l c p i) #[] zrq w1 := ⟨p1, fun h => absurd rfl h, q1, b1, by omega, by omega⟩
  have HB := Lib.hid hB0
  have hS : restS q s = ({ q with kind := byte0 s }, true) := by unfold restS; rw [if_neg h0, if_pos h5, decide_eq_true h1]
  have HS := Lib.hid hS
  have HW := Lib.hid hw1
  have HY := Lib.hid hy
  have e0 : s.toList.isEmpty = false := not_empty h0
  have ix := ix0 s (by omega)
  have hl1 := sl1 s 1 1 rfl (by omega)
  have hz1 : (from1 s).size = s.size - 1 := by unfold from1; rw [ByteArray.size_extract]; omega
  have e1 : (from1 s).toList.isEmpty = true := empty_of h1
  have g0 := byte0_lt s
  have g1 := g0.1
  have g2 := g0.2
  have wx : IntKind.i64.wrap (byte0 s) = byte0 s := (by rw [IntKind.wrap_i64]; omega)
  have k5 : (q.op != 5) = false := by simp [h5]
  have k3 : (q.op == 3) = false := by rw [h5]; rfl
  obtain ⟨r1, hs1⟩ : ∃ r1, r1 = from1 s := ⟨_, rfl⟩
  have hl2 : ∀ W, (Instr.slice 9 (.string s) (some (.int .i64 1)) none none).run Try.prog W = .ok (.string (from1 s)) W := hl1
  clear hl1
  obtain ⟨k0, hk0⟩ : ∃ k0, k0 = byte0 s := ⟨_, rfl⟩
  clear b1 p1 q1 hw1 hB0 hS h0 h1 hz1 h5 g0
  simp only [← hk0, ← hs1] at HS ix hl2 e1 g1 g2 wx
  clear hk0 hs1
  go_enter Try.func58, Try.ntmps58
  go_upto_region 1 with (fail)
  rw [← HW.out, ← hy, ← hx]
  clear hx hy
  go_upto_region 3 with (fail)
  refine wp_region_held_drew (S := fun _ => True) (by kernel_rfl) trivial (fun hS0 => ?_)
  refine tk 0 12 (.string s) ?_; (try simp only [s1, s2, s3]); refine tk 1 13 (.int .u8 k0) ?_; (try simp only [s1, s2, s3]); refine tk 2 14 (.int .i64 k0) ?_; (try simp only [s1, s2, s3]); refine tk 3 15 (.string s) ?_; (try simp only [s1, s2, s3]); refine tk 4 16 (.string r1) ?_; (try simp only [s1, s2, s3]); refine tk 5 17 (.pointer (some ⟨x, 20, none⟩)) ?_; (try simp only [s1, s2, s3])
  refine wpAnyH_ready (rs := [6]) (by kernel_rfl) (by simp) ?_
  refine AllReadyH.cons rfl (fun K hK => ?_) ?_
  · rw [if_pos (by rfl)]
    refine wp_storeQ 3 (.tmp 17) (.tmp 14) rfl rfl 20 (by (go_simp; try rfl)) (.int .i64 k0) (by (go_simp; try rfl)) rfl (by kernel_rfl) HB.out.drew (Nat.lt_of_sub_eq_succ rfl) ?_
    intro w3 hB0
    have hB3 : BQ w x x y #[.int .i64 q.op, .int .i64 q.ob.kind, .string q.ob.name, .int .i64 q.ob.uid, .int .i64 q.ob.version, .bool q.ob.deleting, .slice f.A q.ob.fins.length f.c, .slice l.A q.ob.labels.length l.c, .slice c.A q.ob.cidrs.length c.c, .string q.ob.status, .int .i64 q.ob.type, .int .i64 q.ob.policy, .slice p.A q.ob.fams.length p.c, .slice i.A q.ob.ips.length i.c, .string q.ob.v4, .string q.ob.v6, .int .i64 q.ob.bits, .string q.ob.sel, .string q.ob.about, .string q.ob.reason, .int .i64 k0, .string q.name, .int .i64 q.version] #[] zrq w3 := hB0
    clear hB0
    refine hK.out _ _ (trivial) (fun hHeld => ?_)
    clear hK K; try simp only [Act.put, s1, s2, s3]
    refine tk 7 1 (.string r1) ?_; (try simp only [s1, s2, s3])
    refine wpAnyH_done (by kernel_rfl) ?_ _
    repeat clear hHeld
    clear hS0
    have hB := hB3
    have c0 : w3.cell? ⟨x, 0, none⟩ = some (.int .i64 q.op) := by simp [World.cell?, hB3.fz]
    have HB3 := Lib.hid hB3
    clear hB3
    have HBx := Lib.hid hB
    clear hB
    go_upto_region 13 with (fail)
    have hB := HBx.out
    clear c0
    iterate 1 (first | go_values | go_skip | go_guarded | go_step)
    refine wpList_load_row rfl 51 (.tmp 2) rfl x rfl 51 _ (0, 0) _ hB.fz Try.underlying51 rfl size51 ?_
    iterate 6 (first | go_values | go_skip | go_guarded | go_step)
    refine wpList_store_row rfl 51 (.tmp 4) (.tmp 58) rfl y #[.int .i64 q.op, .int .i64 q.ob.kind, .string q.ob.name, .int .i64 q.ob.uid, .int .i64 q.ob.version, .bool q.ob.deleting, .slice f.A q.ob.fins.length f.c, .slice l.A q.ob.labels.length l.c, .slice c.A q.ob.cidrs.length c.c, .string q.ob.status, .int .i64 q.ob.type, .int .i64 q.ob.policy, .slice p.A q.ob.fams.length p.c, .slice i.A q.ob.ips.length i.c, .string q.ob.v4, .string q.ob.v6, .int .i64 q.ob.bits, .string q.ob.sel, .string q.ob.about, .string q.ob.reason, .int .i64 k0, .string q.name, .int .i64 q.version] rfl rfl 51 _ hB.fy size51 rfl (by simp [Value.oneCell', zrq]) ?_
    have HBF := Lib.hid hB
    clear hB
    go_wp2
    refine bodyPost_ret (results_ct rfl _ _ y 51 #[.int .i64 q.op, .int .i64 q.ob.kind, .string q.ob.name, .int .i64 q.ob.uid, .int .i64 q.ob.version, .bool q.ob.deleting, .slice f.A q.ob.fins.length f.c, .slice l.A q.ob.labels.length l.c, .slice c.A q.ob.cidrs.length c.c, .string q.ob.status, .int .i64 q.ob.type, .int .i64 q.ob.policy, .slice p.A q.ob.fams.length p.c, .slice i.A q.ob.ips.length i.c, .string q.ob.v4, .string q.ob.v6, .int .i64 q.ob.bits, .string q.ob.sel, .string q.ob.about, .string q.ob.reason, .int .i64 k0, .string q.name, .int .i64 q.version] (0, 0) _ rfl (setRow_heap _ _ _ _ _ _ HBF.out.fy) Try.underlying51 rfl size51) rfl ⟨?_, ?_⟩
    · rw [HS.out]; rfl
    · exact HBF.out.b.trans ⟨rfl, rfl, rfl, by rw [size_setRow]; exact Nat.le_refl _, fun j hj => setRow_other _ _ _ _ (by rw [HY.out]; omega)⟩
  exact AllReadyH.nil
set_option maxRecDepth 100000 in
set_option maxHeartbeats 4000000 in
theorem rest_5b (q : Rq) (f l c p i : Sl) (s : ByteArray) (hs : s.size ≤ 500000) (h0 : ¬ s.size = 0) (h5 : q.op = 5) (h1 : ¬ (from1 s).size = 0) (w : World) :
    Calls Try.prog 58 #[.agg (rq q f l c p i), .string s] w fun e w' => e = .returned (.tuple #[.agg (rq (restS q s).1 f l c p i), .bool (restS q s).2]) ∧ Below w.heap.size w w' := by
  obtain ⟨w1, hw1, b1, p1, q1⟩ := two_rqs w (rq q f l c p i) zrq
  obtain ⟨x, hx⟩ : ∃ x, x = w.heap.size := ⟨_, rfl⟩
  obtain ⟨y, hy⟩ : ∃ y, y = w.heap.size + 1 := ⟨_, rfl⟩
  rw [← hx] at p1
  rw [← hy] at q1
  have hB0 : BQ w x x y (rq q f l c p i) #[] zrq w1 := ⟨p1, fun h => absurd rfl h, q1, b1, by omega, by omega⟩
  have HB := Lib.hid hB0
  have hS : restS q s = ({ q with kind := byte0 s }, false) := by unfold restS; rw [if_neg h0, if_pos h5, decide_eq_false h1]
  have HS := Lib.hid hS
  have HW := Lib.hid hw1
  have HY := Lib.hid hy
  have e0 : s.toList.isEmpty = false := not_empty h0
  have ix := ix0 s (by omega)
  have hl1 := sl1 s 1 1 rfl (by omega)
  have hz1 : (from1 s).size = s.size - 1 := by unfold from1; rw [ByteArray.size_extract]; omega
  have e1 : (from1 s).toList.isEmpty = false := not_empty h1
  have g0 := byte0_lt s
  have g1 := g0.1
  have g2 := g0.2
  have wx : IntKind.i64.wrap (byte0 s) = byte0 s := (by rw [IntKind.wrap_i64]; omega)
  have k5 : (q.op != 5) = false := by simp [h5]
  have k3 : (q.op == 3) = false := by rw [h5]; rfl
  obtain ⟨r1, hs1⟩ : ∃ r1, r1 = from1 s := ⟨_, rfl⟩
  have hl2 : ∀ W, (Instr.slice 9 (.string s) (some (.int .i64 1)) none none).run Try.prog W = .ok (.string (from1 s)) W := hl1
  clear hl1
  obtain ⟨k0, hk0⟩ : ∃ k0, k0 = byte0 s := ⟨_, rfl⟩
  clear b1 p1 q1 hw1 hB0 hS h0 h1 hz1 h5 g0
  simp only [← hk0, ← hs1] at HS ix hl2 e1 g1 g2 wx
  clear hk0 hs1
  go_enter Try.func58, Try.ntmps58
  go_upto_region 1 with (fail)
  rw [← HW.out, ← hy, ← hx]
  clear hx hy
  go_upto_region 3 with (fail)
  refine wp_region_held_drew (S := fun _ => True) (by kernel_rfl) trivial (fun hS0 => ?_)
  refine tk 0 12 (.string s) ?_; (try simp only [s1, s2, s3]); refine tk 1 13 (.int .u8 k0) ?_; (try simp only [s1, s2, s3]); refine tk 2 14 (.int .i64 k0) ?_; (try simp only [s1, s2, s3]); refine tk 3 15 (.string s) ?_; (try simp only [s1, s2, s3]); refine tk 4 16 (.string r1) ?_; (try simp only [s1, s2, s3]); refine tk 5 17 (.pointer (some ⟨x, 20, none⟩)) ?_; (try simp only [s1, s2, s3])
  refine wpAnyH_ready (rs := [6]) (by kernel_rfl) (by simp) ?_
  refine AllReadyH.cons rfl (fun K hK => ?_) ?_
  · rw [if_pos (by rfl)]
    refine wp_storeQ 3 (.tmp 17) (.tmp 14) rfl rfl 20 (by (go_simp; try rfl)) (.int .i64 k0) (by (go_simp; try rfl)) rfl (by kernel_rfl) HB.out.drew (Nat.lt_of_sub_eq_succ rfl) ?_
    intro w3 hB0
    have hB3 : BQ w x x y #[.int .i64 q.op, .int .i64 q.ob.kind, .string q.ob.name, .int .i64 q.ob.uid, .int .i64 q.ob.version, .bool q.ob.deleting, .slice f.A q.ob.fins.length f.c, .slice l.A q.ob.labels.length l.c, .slice c.A q.ob.cidrs.length c.c, .string q.ob.status, .int .i64 q.ob.type, .int .i64 q.ob.policy, .slice p.A q.ob.fams.length p.c, .slice i.A q.ob.ips.length i.c, .string q.ob.v4, .string q.ob.v6, .int .i64 q.ob.bits, .string q.ob.sel, .string q.ob.about, .string q.ob.reason, .int .i64 k0, .string q.name, .int .i64 q.version] #[] zrq w3 := hB0
    clear hB0
    refine hK.out _ _ (trivial) (fun hHeld => ?_)
    clear hK K; try simp only [Act.put, s1, s2, s3]
    refine tk 7 1 (.string r1) ?_; (try simp only [s1, s2, s3])
    refine wpAnyH_done (by kernel_rfl) ?_ _
    repeat clear hHeld
    clear hS0
    have hB := hB3
    have c0 : w3.cell? ⟨x, 0, none⟩ = some (.int .i64 q.op) := by simp [World.cell?, hB3.fz]
    have HB3 := Lib.hid hB3
    clear hB3
    have HBx := Lib.hid hB
    clear hB
    go_upto_region 13 with (fail)
    have hB := HBx.out
    clear c0
    iterate 1 (first | go_values | go_skip | go_guarded | go_step)
    refine wpList_load_row rfl 51 (.tmp 2) rfl x rfl 51 _ (0, 0) _ hB.fz Try.underlying51 rfl size51 ?_
    iterate 6 (first | go_values | go_skip | go_guarded | go_step)
    refine wpList_store_row rfl 51 (.tmp 4) (.tmp 58) rfl y #[.int .i64 q.op, .int .i64 q.ob.kind, .string q.ob.name, .int .i64 q.ob.uid, .int .i64 q.ob.version, .bool q.ob.deleting, .slice f.A q.ob.fins.length f.c, .slice l.A q.ob.labels.length l.c, .slice c.A q.ob.cidrs.length c.c, .string q.ob.status, .int .i64 q.ob.type, .int .i64 q.ob.policy, .slice p.A q.ob.fams.length p.c, .slice i.A q.ob.ips.length i.c, .string q.ob.v4, .string q.ob.v6, .int .i64 q.ob.bits, .string q.ob.sel, .string q.ob.about, .string q.ob.reason, .int .i64 k0, .string q.name, .int .i64 q.version] rfl rfl 51 _ hB.fy size51 rfl (by simp [Value.oneCell', zrq]) ?_
    have HBF := Lib.hid hB
    clear hB
    go_wp2
    refine bodyPost_ret (results_ct rfl _ _ y 51 #[.int .i64 q.op, .int .i64 q.ob.kind, .string q.ob.name, .int .i64 q.ob.uid, .int .i64 q.ob.version, .bool q.ob.deleting, .slice f.A q.ob.fins.length f.c, .slice l.A q.ob.labels.length l.c, .slice c.A q.ob.cidrs.length c.c, .string q.ob.status, .int .i64 q.ob.type, .int .i64 q.ob.policy, .slice p.A q.ob.fams.length p.c, .slice i.A q.ob.ips.length i.c, .string q.ob.v4, .string q.ob.v6, .int .i64 q.ob.bits, .string q.ob.sel, .string q.ob.about, .string q.ob.reason, .int .i64 k0, .string q.name, .int .i64 q.version] (0, 0) _ rfl (setRow_heap _ _ _ _ _ _ HBF.out.fy) Try.underlying51 rfl size51) rfl ⟨?_, ?_⟩
    · rw [HS.out]; rfl
    · exact HBF.out.b.trans ⟨rfl, rfl, rfl, by rw [size_setRow]; exact Nat.le_refl _, fun j hj => setRow_other _ _ _ _ (by rw [HY.out]; omega)⟩
  exact AllReadyH.nil
set_option maxRecDepth 100000 in
set_option maxHeartbeats 4000000 in
theorem rest_e (q : Rq) (f l c p i : Sl) (s : ByteArray) (hs : s.size ≤ 500000) (h0 : ¬ s.size = 0) (h5 : ¬ q.op = 5) (h1 : (from1 s).size = 0) (w : World) :
    Calls Try.prog 58 #[.agg (rq q f l c p i), .string s] w fun e w' => e = .returned (.tuple #[.agg (rq (restS q s).1 f l c p i), .bool (restS q s).2]) ∧ Below w.heap.size w w' := by
  obtain ⟨w1, hw1, b1, p1, q1⟩ := two_rqs w (rq q f l c p i) zrq
  obtain ⟨x, hx⟩ : ∃ x, x = w.heap.size := ⟨_, rfl⟩
  obtain ⟨y, hy⟩ : ∃ y, y = w.heap.size + 1 := ⟨_, rfl⟩
  rw [← hx] at p1
  rw [← hy] at q1
  have hB0 : BQ w x x y (rq q f l c p i) #[] zrq w1 := ⟨p1, fun h => absurd rfl h, q1, b1, by omega, by omega⟩
  have HB := Lib.hid hB0
  have hS : restS q s = ({ q with kind := byte0 s }, false) := by unfold restS; rw [if_neg h0, if_neg h5, if_pos (.inl h1)]
  have HS := Lib.hid hS
  have HW := Lib.hid hw1
  have HY := Lib.hid hy
  have e0 : s.toList.isEmpty = false := not_empty h0
  have ix := ix0 s (by omega)
  have hl1 := sl1 s 1 1 rfl (by omega)
  have hz1 : (from1 s).size = s.size - 1 := by unfold from1; rw [ByteArray.size_extract]; omega
  have e1 : (from1 s).toList.isEmpty = true := empty_of h1
  have g0 := byte0_lt s
  have g1 := g0.1
  have g2 := g0.2
  have wx : IntKind.i64.wrap (byte0 s) = byte0 s := (by rw [IntKind.wrap_i64]; omega)
  have k5 : (q.op != 5) = true := by simpa using h5
  obtain ⟨r1, hs1⟩ : ∃ r1, r1 = from1 s := ⟨_, rfl⟩
  have hl2 : ∀ W, (Instr.slice 9 (.string s) (some (.int .i64 1)) none none).run Try.prog W = .ok (.string (from1 s)) W := hl1
  clear hl1
  obtain ⟨k0, hk0⟩ : ∃ k0, k0 = byte0 s := ⟨_, rfl⟩
  clear b1 p1 q1 hw1 hB0 hS h0 h1 hz1 h5 g0
  simp only [← hk0, ← hs1] at HS ix hl2 e1 g1 g2 wx
  clear hk0 hs1
  go_enter Try.func58, Try.ntmps58
  go_upto_region 1 with (fail)
  rw [← HW.out, ← hy, ← hx]
  clear hx hy
  go_upto_region 3 with (fail)
  refine wp_region_held_drew (S := fun _ => True) (by kernel_rfl) trivial (fun hS0 => ?_)
  refine tk 0 12 (.string s) ?_; (try simp only [s1, s2, s3]); refine tk 1 13 (.int .u8 k0) ?_; (try simp only [s1, s2, s3]); refine tk 2 14 (.int .i64 k0) ?_; (try simp only [s1, s2, s3]); refine tk 3 15 (.string s) ?_; (try simp only [s1, s2, s3]); refine tk 4 16 (.string r1) ?_; (try simp only [s1, s2, s3]); refine tk 5 17 (.pointer (some ⟨x, 20, none⟩)) ?_; (try simp only [s1, s2, s3])
  refine wpAnyH_ready (rs := [6]) (by kernel_rfl) (by simp) ?_
  refine AllReadyH.cons rfl (fun K hK => ?_) ?_
  · rw [if_pos (by rfl)]
    refine wp_storeQ 3 (.tmp 17) (.tmp 14) rfl rfl 20 (by (go_simp; try rfl)) (.int .i64 k0) (by (go_simp; try rfl)) rfl (by kernel_rfl) HB.out.drew (Nat.lt_of_sub_eq_succ rfl) ?_
    intro w3 hB0
    have hB3 : BQ w x x y #[.int .i64 q.op, .int .i64 q.ob.kind, .string q.ob.name, .int .i64 q.ob.uid, .int .i64 q.ob.version, .bool q.ob.deleting, .slice f.A q.ob.fins.length f.c, .slice l.A q.ob.labels.length l.c, .slice c.A q.ob.cidrs.length c.c, .string q.ob.status, .int .i64 q.ob.type, .int .i64 q.ob.policy, .slice p.A q.ob.fams.length p.c, .slice i.A q.ob.ips.length i.c, .string q.ob.v4, .string q.ob.v6, .int .i64 q.ob.bits, .string q.ob.sel, .string q.ob.about, .string q.ob.reason, .int .i64 k0, .string q.name, .int .i64 q.version] #[] zrq w3 := hB0
    clear hB0
    refine hK.out _ _ (trivial) (fun hHeld => ?_)
    clear hK K; try simp only [Act.put, s1, s2, s3]
    refine tk 7 1 (.string r1) ?_; (try simp only [s1, s2, s3])
    refine wpAnyH_done (by kernel_rfl) ?_ _
    repeat clear hHeld
    clear hS0
    have hB := hB3
    have c0 : w3.cell? ⟨x, 0, none⟩ = some (.int .i64 q.op) := by simp [World.cell?, hB3.fz]
    have HB3 := Lib.hid hB3
    clear hB3
    have HBx := Lib.hid hB
    clear hB
    go_upto_region 6 with (fail)
    have hB := HBx.out
    clear c0
    iterate 1 (first | go_values | go_skip | go_guarded | go_step)
    refine wpList_load_row rfl 51 (.tmp 2) rfl x rfl 51 _ (0, 0) _ hB.fz Try.underlying51 rfl size51 ?_
    refine wpList_store_row rfl 51 (.tmp 4) (.tmp 32) rfl y #[.int .i64 q.op, .int .i64 q.ob.kind, .string q.ob.name, .int .i64 q.ob.uid, .int .i64 q.ob.version, .bool q.ob.deleting, .slice f.A q.ob.fins.length f.c, .slice l.A q.ob.labels.length l.c, .slice c.A q.ob.cidrs.length c.c, .string q.ob.status, .int .i64 q.ob.type, .int .i64 q.ob.policy, .slice p.A q.ob.fams.length p.c, .slice i.A q.ob.ips.length i.c, .string q.ob.v4, .string q.ob.v6, .int .i64 q.ob.bits, .string q.ob.sel, .string q.ob.about, .string q.ob.reason, .int .i64 k0, .string q.name, .int .i64 q.version] rfl rfl 51 _ hB.fy size51 rfl (by simp [Value.oneCell', zrq]) ?_
    have HBF := Lib.hid hB
    clear hB
    go_wp2
    refine bodyPost_ret (results_ct rfl _ _ y 51 #[.int .i64 q.op, .int .i64 q.ob.kind, .string q.ob.name, .int .i64 q.ob.uid, .int .i64 q.ob.version, .bool q.ob.deleting, .slice f.A q.ob.fins.length f.c, .slice l.A q.ob.labels.length l.c, .slice c.A q.ob.cidrs.length c.c, .string q.ob.status, .int .i64 q.ob.type, .int .i64 q.ob.policy, .slice p.A q.ob.fams.length p.c, .slice i.A q.ob.ips.length i.c, .string q.ob.v4, .string q.ob.v6, .int .i64 q.ob.bits, .string q.ob.sel, .string q.ob.about, .string q.ob.reason, .int .i64 k0, .string q.name, .int .i64 q.version] (0, 0) _ rfl (setRow_heap _ _ _ _ _ _ HBF.out.fy) Try.underlying51 rfl size51) rfl ⟨?_, ?_⟩
    · rw [HS.out]; rfl
    · exact HBF.out.b.trans ⟨rfl, rfl, rfl, by rw [size_setRow]; exact Nat.le_refl _, fun j hj => setRow_other _ _ _ _ (by rw [HY.out]; omega)⟩
  exact AllReadyH.nil
set_option maxRecDepth 100000 in
set_option maxHeartbeats 4000000 in
theorem rest_l (q : Rq) (f l c p i : Sl) (s : ByteArray) (hs : s.size ≤ 500000) (h0 : ¬ s.size = 0) (h5 : ¬ q.op = 5) (h1 : ¬ (from1 s).size = 0) (h2 : byte0 (from1 s) > (from1 s).size - 1) (w : World) :
    Calls Try.prog 58 #[.agg (rq q f l c p i), .string s] w fun e w' => e = .returned (.tuple #[.agg (rq (restS q s).1 f l c p i), .bool (restS q s).2]) ∧ Below w.heap.size w w' := by
  obtain ⟨w1, hw1, b1, p1, q1⟩ := two_rqs w (rq q f l c p i) zrq
  obtain ⟨x, hx⟩ : ∃ x, x = w.heap.size := ⟨_, rfl⟩
  obtain ⟨y, hy⟩ : ∃ y, y = w.heap.size + 1 := ⟨_, rfl⟩
  rw [← hx] at p1
  rw [← hy] at q1
  have hB0 : BQ w x x y (rq q f l c p i) #[] zrq w1 := ⟨p1, fun h => absurd rfl h, q1, b1, by omega, by omega⟩
  have HB := Lib.hid hB0
  have hS : restS q s = ({ q with kind := byte0 s }, false) := by unfold restS; rw [if_neg h0, if_neg h5, if_pos (.inr h2)]
  have HS := Lib.hid hS
  have HW := Lib.hid hw1
  have HY := Lib.hid hy
  have e0 : s.toList.isEmpty = false := not_empty h0
  have ix := ix0 s (by omega)
  have hl1 := sl1 s 1 1 rfl (by omega)
  have hz1 : (from1 s).size = s.size - 1 := by unfold from1; rw [ByteArray.size_extract]; omega
  have e1 : (from1 s).toList.isEmpty = false := not_empty h1
  have iy := ix0 (from1 s) (by omega)
  have g4 := byte0_lt (from1 s)
  have g5 := g4.1
  have g6 := g4.2
  have wy : IntKind.i64.wrap (byte0 (from1 s)) = byte0 (from1 s) := (by rw [IntKind.wrap_i64]; omega)
  have d2 : decide ((from1 s).size - 1 < byte0 (from1 s)) = true := decide_eq_true (by omega)
  have wz : IntKind.i64.wrap (1 + byte0 (from1 s)) = 1 + byte0 (from1 s) := (by rw [IntKind.wrap_i64]; omega)
  have hz2 : (1 : Int) ≤ (from1 s).size := by omega
  have hz3 : ((from1 s).size : Int) ≤ 500000 := by omega
  have g0 := byte0_lt s
  have g1 := g0.1
  have g2 := g0.2
  have wx : IntKind.i64.wrap (byte0 s) = byte0 s := (by rw [IntKind.wrap_i64]; omega)
  have k5 : (q.op != 5) = true := by simpa using h5
  obtain ⟨r1, hs1⟩ : ∃ r1, r1 = from1 s := ⟨_, rfl⟩
  have hl2 : ∀ W, (Instr.slice 9 (.string s) (some (.int .i64 1)) none none).run Try.prog W = .ok (.string (from1 s)) W := hl1
  clear hl1
  obtain ⟨k1, hk1⟩ : ∃ k1, k1 = byte0 (from1 s) := ⟨_, rfl⟩
  obtain ⟨k0, hk0⟩ : ∃ k0, k0 = byte0 s := ⟨_, rfl⟩
  clear b1 p1 q1 hw1 hB0 hS h0 h1 hz1 h2 g4 h5 g0
  simp only [← hk1] at HS ix hl2 e1 g1 g2 wx iy g5 g6 wy wz d2 hz2 hz3
  simp only [← hk0, ← hs1] at HS ix hl2 e1 g1 g2 wx iy g5 g6 wy wz d2 hz2 hz3
  clear hk0 hk1 hs1
  go_enter Try.func58, Try.ntmps58
  go_upto_region 1 with (fail)
  rw [← HW.out, ← hy, ← hx]
  clear hx hy
  go_upto_region 3 with (fail)
  refine wp_region_held_drew (S := fun _ => True) (by kernel_rfl) trivial (fun hS0 => ?_)
  refine tk 0 12 (.string s) ?_; (try simp only [s1, s2, s3]); refine tk 1 13 (.int .u8 k0) ?_; (try simp only [s1, s2, s3]); refine tk 2 14 (.int .i64 k0) ?_; (try simp only [s1, s2, s3]); refine tk 3 15 (.string s) ?_; (try simp only [s1, s2, s3]); refine tk 4 16 (.string r1) ?_; (try simp only [s1, s2, s3]); refine tk 5 17 (.pointer (some ⟨x, 20, none⟩)) ?_; (try simp only [s1, s2, s3])
  refine wpAnyH_ready (rs := [6]) (by kernel_rfl) (by simp) ?_
  refine AllReadyH.cons rfl (fun K hK => ?_) ?_
  · rw [if_pos (by rfl)]
    refine wp_storeQ 3 (.tmp 17) (.tmp 14) rfl rfl 20 (by (go_simp; try rfl)) (.int .i64 k0) (by (go_simp; try rfl)) rfl (by kernel_rfl) HB.out.drew (Nat.lt_of_sub_eq_succ rfl) ?_
    intro w3 hB0
    have hB3 : BQ w x x y #[.int .i64 q.op, .int .i64 q.ob.kind, .string q.ob.name, .int .i64 q.ob.uid, .int .i64 q.ob.version, .bool q.ob.deleting, .slice f.A q.ob.fins.length f.c, .slice l.A q.ob.labels.length l.c, .slice c.A q.ob.cidrs.length c.c, .string q.ob.status, .int .i64 q.ob.type, .int .i64 q.ob.policy, .slice p.A q.ob.fams.length p.c, .slice i.A q.ob.ips.length i.c, .string q.ob.v4, .string q.ob.v6, .int .i64 q.ob.bits, .string q.ob.sel, .string q.ob.about, .string q.ob.reason, .int .i64 k0, .string q.name, .int .i64 q.version] #[] zrq w3 := hB0
    clear hB0
    refine hK.out _ _ (trivial) (fun hHeld => ?_)
    clear hK K; try simp only [Act.put, s1, s2, s3]
    refine tk 7 1 (.string r1) ?_; (try simp only [s1, s2, s3])
    refine wpAnyH_done (by kernel_rfl) ?_ _
    repeat clear hHeld
    clear hS0
    have hB := hB3
    have c0 : w3.cell? ⟨x, 0, none⟩ = some (.int .i64 q.op) := by simp [World.cell?, hB3.fz]
    have HB3 := Lib.hid hB3
    clear hB3
    have HBx := Lib.hid hB
    clear hB
    go_upto_region 6 with (fail)
    have hB := HBx.out
    clear c0
    iterate 1 (first | go_values | go_skip | go_guarded | go_step)
    refine wpList_load_row rfl 51 (.tmp 2) rfl x rfl 51 _ (0, 0) _ hB.fz Try.underlying51 rfl size51 ?_
    refine wpList_store_row rfl 51 (.tmp 4) (.tmp 32) rfl y #[.int .i64 q.op, .int .i64 q.ob.kind, .string q.ob.name, .int .i64 q.ob.uid, .int .i64 q.ob.version, .bool q.ob.deleting, .slice f.A q.ob.fins.length f.c, .slice l.A q.ob.labels.length l.c, .slice c.A q.ob.cidrs.length c.c, .string q.ob.status, .int .i64 q.ob.type, .int .i64 q.ob.policy, .slice p.A q.ob.fams.length p.c, .slice i.A q.ob.ips.length i.c, .string q.ob.v4, .string q.ob.v6, .int .i64 q.ob.bits, .string q.ob.sel, .string q.ob.about, .string q.ob.reason, .int .i64 k0, .string q.name, .int .i64 q.version] rfl rfl 51 _ hB.fy size51 rfl (by simp [Value.oneCell', zrq]) ?_
    have HBF := Lib.hid hB
    clear hB
    go_wp2
    refine bodyPost_ret (results_ct rfl _ _ y 51 #[.int .i64 q.op, .int .i64 q.ob.kind, .string q.ob.name, .int .i64 q.ob.uid, .int .i64 q.ob.version, .bool q.ob.deleting, .slice f.A q.ob.fins.length f.c, .slice l.A q.ob.labels.length l.c, .slice c.A q.ob.cidrs.length c.c, .string q.ob.status, .int .i64 q.ob.type, .int .i64 q.ob.policy, .slice p.A q.ob.fams.length p.c, .slice i.A q.ob.ips.length i.c, .string q.ob.v4, .string q.ob.v6, .int .i64 q.ob.bits, .string q.ob.sel, .string q.ob.about, .string q.ob.reason, .int .i64 k0, .string q.name, .int .i64 q.version] (0, 0) _ rfl (setRow_heap _ _ _ _ _ _ HBF.out.fy) Try.underlying51 rfl size51) rfl ⟨?_, ?_⟩
    · rw [HS.out]; rfl
    · exact HBF.out.b.trans ⟨rfl, rfl, rfl, by rw [size_setRow]; exact Nat.le_refl _, fun j hj => setRow_other _ _ _ _ (by rw [HY.out]; omega)⟩
  exact AllReadyH.nil
set_option maxRecDepth 100000 in
set_option maxHeartbeats 4000000 in
theorem rest_3 (q : Rq) (f l c p i : Sl) (s : ByteArray) (hs : s.size ≤ 500000) (h0 : ¬ s.size = 0) (h5 : ¬ q.op = 5) (h1 : ¬ (from1 s).size = 0) (h2 : ¬ byte0 (from1 s) > (from1 s).size - 1) (h3 : q.op = 3) (w : World) :
    Calls Try.prog 58 #[.agg (rq q f l c p i), .string s] w fun e w' => e = .returned (.tuple #[.agg (rq (restS q s).1 f l c p i), .bool (restS q s).2]) ∧ Below w.heap.size w w' := by
  obtain ⟨w1, hw1, b1, p1, q1⟩ := two_rqs w (rq q f l c p i) zrq
  obtain ⟨x, hx⟩ : ∃ x, x = w.heap.size := ⟨_, rfl⟩
  obtain ⟨y, hy⟩ : ∃ y, y = w.heap.size + 1 := ⟨_, rfl⟩
  rw [← hx] at p1
  rw [← hy] at q1
  have hB0 : BQ w x x y (rq q f l c p i) #[] zrq w1 := ⟨p1, fun h => absurd rfl h, q1, b1, by omega, by omega⟩
  have HB := Lib.hid hB0
  have hS : restS q s = ({ q with kind := byte0 s, name := nameS (from1 s), version := (numOf (behS (from1 s))).1 }, decide ((numOf (behS (from1 s))).2 = 0)) := by unfold restS; rw [if_neg h0, if_neg h5, if_neg (by rintro (h | h); exact h1 h; exact h2 h)]; exact if_pos h3
  have HS := Lib.hid hS
  have HW := Lib.hid hw1
  have HY := Lib.hid hy
  have e0 : s.toList.isEmpty = false := not_empty h0
  have ix := ix0 s (by omega)
  have hl1 := sl1 s 1 1 rfl (by omega)
  have hz1 : (from1 s).size = s.size - 1 := by unfold from1; rw [ByteArray.size_extract]; omega
  have e1 : (from1 s).toList.isEmpty = false := not_empty h1
  have iy := ix0 (from1 s) (by omega)
  have g4 := byte0_lt (from1 s)
  have g5 := g4.1
  have g6 := g4.2
  have wy : IntKind.i64.wrap (byte0 (from1 s)) = byte0 (from1 s) := (by rw [IntKind.wrap_i64]; omega)
  have d2 : decide ((from1 s).size - 1 < byte0 (from1 s)) = false := decide_eq_false (by omega)
  have wz : IntKind.i64.wrap (1 + byte0 (from1 s)) = 1 + byte0 (from1 s) := (by rw [IntKind.wrap_i64]; omega)
  have hz2 : (1 : Int) ≤ (from1 s).size := by omega
  have hz3 : ((from1 s).size : Int) ≤ 500000 := by omega
  have hm : byte0 (from1 s) = ((byte0 (from1 s)).toNat : Int) := by omega
  have ln : ∀ W, (Instr.slice 9 (.string (from1 s)) (some (.int .i64 1)) (some (.int .i64 (1 + byte0 (from1 s)))) none).run Try.prog W = .ok (.string (nameS (from1 s))) W := slc (from1 s) 1 (1 + byte0 (from1 s)) 1 (1 + (byte0 (from1 s)).toNat) rfl (by omega) (by omega) (by omega)
  have lb : ∀ W, (Instr.slice 9 (.string (from1 s)) (some (.int .i64 (1 + byte0 (from1 s)))) none none).run Try.prog W = .ok (.string (behS (from1 s))) W := sl1 (from1 s) (1 + byte0 (from1 s)) (1 + (byte0 (from1 s)).toNat) (by omega) (by omega)
  have hzb : (behS (from1 s)).size ≤ 500000 := by unfold behS; rw [ByteArray.size_extract]; omega
  have CN := Lib.hid (fun V => numof_any (behS (from1 s)) (by omega) V)
  have g0 := byte0_lt s
  have g1 := g0.1
  have g2 := g0.2
  have wx : IntKind.i64.wrap (byte0 s) = byte0 s := (by rw [IntKind.wrap_i64]; omega)
  have k5 : (q.op != 5) = true := by simpa using h5
  have k3 : (q.op == 3) = true := by simp [h3]
  obtain ⟨r1, hs1⟩ : ∃ r1, r1 = from1 s := ⟨_, rfl⟩
  have hl2 : ∀ W, (Instr.slice 9 (.string s) (some (.int .i64 1)) none none).run Try.prog W = .ok (.string (from1 s)) W := hl1
  clear hl1
  obtain ⟨nm, hnm⟩ : ∃ nm, nm = nameS (from1 s) := ⟨_, rfl⟩
  obtain ⟨r2, hs2⟩ : ∃ r2, r2 = behS (from1 s) := ⟨_, rfl⟩
  obtain ⟨k1, hk1⟩ : ∃ k1, k1 = byte0 (from1 s) := ⟨_, rfl⟩
  obtain ⟨k0, hk0⟩ : ∃ k0, k0 = byte0 s := ⟨_, rfl⟩
  clear b1 p1 q1 hw1 hB0 hS h0 h1 hz1 h2 g4 hm h3 h5 g0
  simp only [← hk1, ← hnm, ← hs2] at HS ix hl2 e1 g1 g2 wx iy g5 g6 wy wz d2 hz2 hz3 ln lb hzb CN
  simp only [← hk0, ← hs1] at HS ix hl2 e1 g1 g2 wx iy g5 g6 wy wz d2 hz2 hz3 ln lb hzb CN
  clear hk0 hk1 hnm hs2 hs1
  go_enter Try.func58, Try.ntmps58
  go_upto_region 1 with (fail)
  rw [← HW.out, ← hy, ← hx]
  clear hx hy
  go_upto_region 3 with (fail)
  refine wp_region_held_drew (S := fun _ => True) (by kernel_rfl) trivial (fun hS0 => ?_)
  refine tk 0 12 (.string s) ?_; (try simp only [s1, s2, s3]); refine tk 1 13 (.int .u8 k0) ?_; (try simp only [s1, s2, s3]); refine tk 2 14 (.int .i64 k0) ?_; (try simp only [s1, s2, s3]); refine tk 3 15 (.string s) ?_; (try simp only [s1, s2, s3]); refine tk 4 16 (.string r1) ?_; (try simp only [s1, s2, s3]); refine tk 5 17 (.pointer (some ⟨x, 20, none⟩)) ?_; (try simp only [s1, s2, s3])
  refine wpAnyH_ready (rs := [6]) (by kernel_rfl) (by simp) ?_
  refine AllReadyH.cons rfl (fun K hK => ?_) ?_
  · rw [if_pos (by rfl)]
    refine wp_storeQ 3 (.tmp 17) (.tmp 14) rfl rfl 20 (by (go_simp; try rfl)) (.int .i64 k0) (by (go_simp; try rfl)) rfl (by kernel_rfl) HB.out.drew (Nat.lt_of_sub_eq_succ rfl) ?_
    intro w3 hB0
    have hB3 : BQ w x x y #[.int .i64 q.op, .int .i64 q.ob.kind, .string q.ob.name, .int .i64 q.ob.uid, .int .i64 q.ob.version, .bool q.ob.deleting, .slice f.A q.ob.fins.length f.c, .slice l.A q.ob.labels.length l.c, .slice c.A q.ob.cidrs.length c.c, .string q.ob.status, .int .i64 q.ob.type, .int .i64 q.ob.policy, .slice p.A q.ob.fams.length p.c, .slice i.A q.ob.ips.length i.c, .string q.ob.v4, .string q.ob.v6, .int .i64 q.ob.bits, .string q.ob.sel, .string q.ob.about, .string q.ob.reason, .int .i64 k0, .string q.name, .int .i64 q.version] #[] zrq w3 := hB0
    clear hB0
    refine hK.out _ _ (trivial) (fun hHeld => ?_)
    clear hK K; try simp only [Act.put, s1, s2, s3]
    refine tk 7 1 (.string r1) ?_; (try simp only [s1, s2, s3])
    refine wpAnyH_done (by kernel_rfl) ?_ _
    repeat clear hHeld
    clear hS0
    have hB := hB3
    have c0 : w3.cell? ⟨x, 0, none⟩ = some (.int .i64 q.op) := by simp [World.cell?, hB3.fz]
    have HB3 := Lib.hid hB3
    clear hB3
    clear hB
    go_upto_region 8 with (fail)
    clear c0
    refine wp_region_held_drew (S := fun _ => True) (by kernel_rfl) trivial (fun hS0 => ?_)
    refine tk 0 36 (.string r1) ?_; (try simp only [s1, s2, s3]); refine tk 1 37 (.int .i64 k1) ?_; (try simp only [s1, s2, s3]); refine tk 2 38 (.int .i64 (1 + k1)) ?_; (try simp only [s1, s2, s3]); refine tk 3 39 (.string nm) ?_; (try simp only [s1, s2, s3]); refine tk 4 40 (.string r1) ?_; (try simp only [s1, s2, s3]); refine tk 5 41 (.int .i64 k1) ?_; (try simp only [s1, s2, s3]); refine tk 6 42 (.int .i64 (1 + k1)) ?_; (try simp only [s1, s2, s3]); refine tk 7 43 (.string r2) ?_; (try simp only [s1, s2, s3]); refine tk 8 44 (.pointer (some ⟨x, 21, none⟩)) ?_; (try simp only [s1, s2, s3])
    refine wpAnyH_ready (rs := [9]) (by kernel_rfl) (by simp) ?_
    refine AllReadyH.cons rfl (fun K hK => ?_) ?_
    · rw [if_pos (by rfl)]
      refine wp_storeQ 9 (.tmp 44) (.tmp 39) rfl rfl 21 (by (go_simp; try rfl)) (.string nm) (by (go_simp; try rfl)) rfl (by kernel_rfl) HB3.out.drew (Nat.lt_of_sub_eq_succ rfl) ?_
      intro w4 hB0
      have hB4 : BQ w x x y #[.int .i64 q.op, .int .i64 q.ob.kind, .string q.ob.name, .int .i64 q.ob.uid, .int .i64 q.ob.version, .bool q.ob.deleting, .slice f.A q.ob.fins.length f.c, .slice l.A q.ob.labels.length l.c, .slice c.A q.ob.cidrs.length c.c, .string q.ob.status, .int .i64 q.ob.type, .int .i64 q.ob.policy, .slice p.A q.ob.fams.length p.c, .slice i.A q.ob.ips.length i.c, .string q.ob.v4, .string q.ob.v6, .int .i64 q.ob.bits, .string q.ob.sel, .string q.ob.about, .string q.ob.reason, .int .i64 k0, .string nm, .int .i64 q.version] #[] zrq w4 := hB0
      clear hB0
      refine hK.out _ _ (trivial) (fun hHeld => ?_)
      clear hK K; try simp only [Act.put, s1, s2, s3]
      refine tk 10 1 (.string r2) ?_; (try simp only [s1, s2, s3])
      refine wpAnyH_done (by kernel_rfl) ?_ _
      repeat clear hHeld
      clear hS0
      have c0 : w4.cell? ⟨x, 0, none⟩ = some (.int .i64 q.op) := by simp [World.cell?, hB4.fz]
      have HBx := Lib.hid hB4
      clear hB4
      go_upto_region 11 with (go_at_call 13; refine (CN.out _).mono ?_; rintro e w5 ⟨rfl, hw5⟩; have hw6 := hw5.symm; clear hw5; subst hw6)
      clear c0
      iterate 7 (first | go_values | go_skip | go_guarded | go_step)
      refine storeQ rfl 3 (.tmp 54) (.tmp 53) rfl rfl 22 rfl (.int .i64 (numOf r2).1) rfl rfl (by kernel_rfl) HBx.out (Nat.lt_of_sub_eq_succ rfl) ?_
      intro w6 hB0
      have hB6 : BQ w x x y #[.int .i64 q.op, .int .i64 q.ob.kind, .string q.ob.name, .int .i64 q.ob.uid, .int .i64 q.ob.version, .bool q.ob.deleting, .slice f.A q.ob.fins.length f.c, .slice l.A q.ob.labels.length l.c, .slice c.A q.ob.cidrs.length c.c, .string q.ob.status, .int .i64 q.ob.type, .int .i64 q.ob.policy, .slice p.A q.ob.fams.length p.c, .slice i.A q.ob.ips.length i.c, .string q.ob.v4, .string q.ob.v6, .int .i64 q.ob.bits, .string q.ob.sel, .string q.ob.about, .string q.ob.reason, .int .i64 k0, .string nm, .int .i64 (numOf r2).1] #[] zrq w6 := hB0
      clear hB0
      have HBy := Lib.hid hB6
      clear hB6
      go_upto_region 12 with (fail)
      have hB := HBy.out
      iterate 1 (first | go_values | go_skip | go_guarded | go_step)
      refine wpList_load_row rfl 51 (.tmp 2) rfl x rfl 51 _ (0, 0) _ hB.fz Try.underlying51 rfl size51 ?_
      iterate 6 (first | go_values | go_skip | go_guarded | go_step)
      refine wpList_store_row rfl 51 (.tmp 4) (.tmp 55) rfl y #[.int .i64 q.op, .int .i64 q.ob.kind, .string q.ob.name, .int .i64 q.ob.uid, .int .i64 q.ob.version, .bool q.ob.deleting, .slice f.A q.ob.fins.length f.c, .slice l.A q.ob.labels.length l.c, .slice c.A q.ob.cidrs.length c.c, .string q.ob.status, .int .i64 q.ob.type, .int .i64 q.ob.policy, .slice p.A q.ob.fams.length p.c, .slice i.A q.ob.ips.length i.c, .string q.ob.v4, .string q.ob.v6, .int .i64 q.ob.bits, .string q.ob.sel, .string q.ob.about, .string q.ob.reason, .int .i64 k0, .string nm, .int .i64 (numOf r2).1] rfl rfl 51 _ hB.fy size51 rfl (by simp [Value.oneCell', zrq]) ?_
      have HBF := Lib.hid hB
      clear hB
      go_wp2
      refine bodyPost_ret (results_ct rfl _ _ y 51 #[.int .i64 q.op, .int .i64 q.ob.kind, .string q.ob.name, .int .i64 q.ob.uid, .int .i64 q.ob.version, .bool q.ob.deleting, .slice f.A q.ob.fins.length f.c, .slice l.A q.ob.labels.length l.c, .slice c.A q.ob.cidrs.length c.c, .string q.ob.status, .int .i64 q.ob.type, .int .i64 q.ob.policy, .slice p.A q.ob.fams.length p.c, .slice i.A q.ob.ips.length i.c, .string q.ob.v4, .string q.ob.v6, .int .i64 q.ob.bits, .string q.ob.sel, .string q.ob.about, .string q.ob.reason, .int .i64 k0, .string nm, .int .i64 (numOf r2).1] (0, 0) _ rfl (setRow_heap _ _ _ _ _ _ HBF.out.fy) Try.underlying51 rfl size51) rfl ⟨?_, ?_⟩
      · rw [HS.out]; rfl
      · exact HBF.out.b.trans ⟨rfl, rfl, rfl, by rw [size_setRow]; exact Nat.le_refl _, fun j hj => setRow_other _ _ _ _ (by rw [HY.out]; omega)⟩
    exact AllReadyH.nil
  exact AllReadyH.nil
set_option maxRecDepth 100000 in
set_option maxHeartbeats 4000000 in
theorem rest_oa (q : Rq) (f l c p i : Sl) (s : ByteArray) (hs : s.size ≤ 500000) (h0 : ¬ s.size = 0) (h5 : ¬ q.op = 5) (h1 : ¬ (from1 s).size = 0) (h2 : ¬ byte0 (from1 s) > (from1 s).size - 1) (h3 : ¬ q.op = 3) (h4 : (behS (from1 s)).size = 0) (w : World) :
    Calls Try.prog 58 #[.agg (rq q f l c p i), .string s] w fun e w' => e = .returned (.tuple #[.agg (rq (restS q s).1 f l c p i), .bool (restS q s).2]) ∧ Below w.heap.size w w' := by
  obtain ⟨w1, hw1, b1, p1, q1⟩ := two_rqs w (rq q f l c p i) zrq
  obtain ⟨x, hx⟩ : ∃ x, x = w.heap.size := ⟨_, rfl⟩
  obtain ⟨y, hy⟩ : ∃ y, y = w.heap.size + 1 := ⟨_, rfl⟩
  rw [← hx] at p1
  rw [← hy] at q1
  have hB0 : BQ w x x y (rq q f l c p i) #[] zrq w1 := ⟨p1, fun h => absurd rfl h, q1, b1, by omega, by omega⟩
  have HB := Lib.hid hB0
  have hS : restS q s = ({ q with kind := byte0 s, name := nameS (from1 s) }, true) := by unfold restS; rw [if_neg h0, if_neg h5, if_neg (by rintro (h | h); exact h1 h; exact h2 h)]; unfold endS; rw [if_neg h3, decide_eq_true h4]
  have HS := Lib.hid hS
  have HW := Lib.hid hw1
  have HY := Lib.hid hy
  have e0 : s.toList.isEmpty = false := not_empty h0
  have ix := ix0 s (by omega)
  have hl1 := sl1 s 1 1 rfl (by omega)
  have hz1 : (from1 s).size = s.size - 1 := by unfold from1; rw [ByteArray.size_extract]; omega
  have e1 : (from1 s).toList.isEmpty = false := not_empty h1
  have iy := ix0 (from1 s) (by omega)
  have g4 := byte0_lt (from1 s)
  have g5 := g4.1
  have g6 := g4.2
  have wy : IntKind.i64.wrap (byte0 (from1 s)) = byte0 (from1 s) := (by rw [IntKind.wrap_i64]; omega)
  have d2 : decide ((from1 s).size - 1 < byte0 (from1 s)) = false := decide_eq_false (by omega)
  have wz : IntKind.i64.wrap (1 + byte0 (from1 s)) = 1 + byte0 (from1 s) := (by rw [IntKind.wrap_i64]; omega)
  have hz2 : (1 : Int) ≤ (from1 s).size := by omega
  have hz3 : ((from1 s).size : Int) ≤ 500000 := by omega
  have hm : byte0 (from1 s) = ((byte0 (from1 s)).toNat : Int) := by omega
  have ln : ∀ W, (Instr.slice 9 (.string (from1 s)) (some (.int .i64 1)) (some (.int .i64 (1 + byte0 (from1 s)))) none).run Try.prog W = .ok (.string (nameS (from1 s))) W := slc (from1 s) 1 (1 + byte0 (from1 s)) 1 (1 + (byte0 (from1 s)).toNat) rfl (by omega) (by omega) (by omega)
  have lb : ∀ W, (Instr.slice 9 (.string (from1 s)) (some (.int .i64 (1 + byte0 (from1 s)))) none none).run Try.prog W = .ok (.string (behS (from1 s))) W := sl1 (from1 s) (1 + byte0 (from1 s)) (1 + (byte0 (from1 s)).toNat) (by omega) (by omega)
  have hzb : (behS (from1 s)).size ≤ 500000 := by unfold behS; rw [ByteArray.size_extract]; omega
  have e2 : (behS (from1 s)).toList.isEmpty = true := empty_of h4
  have g0 := byte0_lt s
  have g1 := g0.1
  have g2 := g0.2
  have wx : IntKind.i64.wrap (byte0 s) = byte0 s := (by rw [IntKind.wrap_i64]; omega)
  have k5 : (q.op != 5) = true := by simpa using h5
  have k3 : (q.op == 3) = false := by simpa using h3
  obtain ⟨r1, hs1⟩ : ∃ r1, r1 = from1 s := ⟨_, rfl⟩
  have hl2 : ∀ W, (Instr.slice 9 (.string s) (some (.int .i64 1)) none none).run Try.prog W = .ok (.string (from1 s)) W := hl1
  clear hl1
  obtain ⟨nm, hnm⟩ : ∃ nm, nm = nameS (from1 s) := ⟨_, rfl⟩
  obtain ⟨r2, hs2⟩ : ∃ r2, r2 = behS (from1 s) := ⟨_, rfl⟩
  obtain ⟨k1, hk1⟩ : ∃ k1, k1 = byte0 (from1 s) := ⟨_, rfl⟩
  obtain ⟨k0, hk0⟩ : ∃ k0, k0 = byte0 s := ⟨_, rfl⟩
  clear b1 p1 q1 hw1 hB0 hS h0 h1 hz1 h2 g4 hm h3 h4 h5 g0
  simp only [← hk1, ← hnm, ← hs2] at HS ix hl2 e1 g1 g2 wx iy g5 g6 wy wz d2 hz2 hz3 ln lb hzb e2
  simp only [← hk0, ← hs1] at HS ix hl2 e1 g1 g2 wx iy g5 g6 wy wz d2 hz2 hz3 ln lb hzb e2
  clear hk0 hk1 hnm hs2 hs1
  go_enter Try.func58, Try.ntmps58
  go_upto_region 1 with (fail)
  rw [← HW.out, ← hy, ← hx]
  clear hx hy
  go_upto_region 3 with (fail)
  refine wp_region_held_drew (S := fun _ => True) (by kernel_rfl) trivial (fun hS0 => ?_)
  refine tk 0 12 (.string s) ?_; (try simp only [s1, s2, s3]); refine tk 1 13 (.int .u8 k0) ?_; (try simp only [s1, s2, s3]); refine tk 2 14 (.int .i64 k0) ?_; (try simp only [s1, s2, s3]); refine tk 3 15 (.string s) ?_; (try simp only [s1, s2, s3]); refine tk 4 16 (.string r1) ?_; (try simp only [s1, s2, s3]); refine tk 5 17 (.pointer (some ⟨x, 20, none⟩)) ?_; (try simp only [s1, s2, s3])
  refine wpAnyH_ready (rs := [6]) (by kernel_rfl) (by simp) ?_
  refine AllReadyH.cons rfl (fun K hK => ?_) ?_
  · rw [if_pos (by rfl)]
    refine wp_storeQ 3 (.tmp 17) (.tmp 14) rfl rfl 20 (by (go_simp; try rfl)) (.int .i64 k0) (by (go_simp; try rfl)) rfl (by kernel_rfl) HB.out.drew (Nat.lt_of_sub_eq_succ rfl) ?_
    intro w3 hB0
    have hB3 : BQ w x x y #[.int .i64 q.op, .int .i64 q.ob.kind, .string q.ob.name, .int .i64 q.ob.uid, .int .i64 q.ob.version, .bool q.ob.deleting, .slice f.A q.ob.fins.length f.c, .slice l.A q.ob.labels.length l.c, .slice c.A q.ob.cidrs.length c.c, .string q.ob.status, .int .i64 q.ob.type, .int .i64 q.ob.policy, .slice p.A q.ob.fams.length p.c, .slice i.A q.ob.ips.length i.c, .string q.ob.v4, .string q.ob.v6, .int .i64 q.ob.bits, .string q.ob.sel, .string q.ob.about, .string q.ob.reason, .int .i64 k0, .string q.name, .int .i64 q.version] #[] zrq w3 := hB0
    clear hB0
    refine hK.out _ _ (trivial) (fun hHeld => ?_)
    clear hK K; try simp only [Act.put, s1, s2, s3]
    refine tk 7 1 (.string r1) ?_; (try simp only [s1, s2, s3])
    refine wpAnyH_done (by kernel_rfl) ?_ _
    repeat clear hHeld
    clear hS0
    have hB := hB3
    have c0 : w3.cell? ⟨x, 0, none⟩ = some (.int .i64 q.op) := by simp [World.cell?, hB3.fz]
    have HB3 := Lib.hid hB3
    clear hB3
    clear hB
    go_upto_region 8 with (fail)
    clear c0
    refine wp_region_held_drew (S := fun _ => True) (by kernel_rfl) trivial (fun hS0 => ?_)
    refine tk 0 36 (.string r1) ?_; (try simp only [s1, s2, s3]); refine tk 1 37 (.int .i64 k1) ?_; (try simp only [s1, s2, s3]); refine tk 2 38 (.int .i64 (1 + k1)) ?_; (try simp only [s1, s2, s3]); refine tk 3 39 (.string nm) ?_; (try simp only [s1, s2, s3]); refine tk 4 40 (.string r1) ?_; (try simp only [s1, s2, s3]); refine tk 5 41 (.int .i64 k1) ?_; (try simp only [s1, s2, s3]); refine tk 6 42 (.int .i64 (1 + k1)) ?_; (try simp only [s1, s2, s3]); refine tk 7 43 (.string r2) ?_; (try simp only [s1, s2, s3]); refine tk 8 44 (.pointer (some ⟨x, 21, none⟩)) ?_; (try simp only [s1, s2, s3])
    refine wpAnyH_ready (rs := [9]) (by kernel_rfl) (by simp) ?_
    refine AllReadyH.cons rfl (fun K hK => ?_) ?_
    · rw [if_pos (by rfl)]
      refine wp_storeQ 9 (.tmp 44) (.tmp 39) rfl rfl 21 (by (go_simp; try rfl)) (.string nm) (by (go_simp; try rfl)) rfl (by kernel_rfl) HB3.out.drew (Nat.lt_of_sub_eq_succ rfl) ?_
      intro w4 hB0
      have hB4 : BQ w x x y #[.int .i64 q.op, .int .i64 q.ob.kind, .string q.ob.name, .int .i64 q.ob.uid, .int .i64 q.ob.version, .bool q.ob.deleting, .slice f.A q.ob.fins.length f.c, .slice l.A q.ob.labels.length l.c, .slice c.A q.ob.cidrs.length c.c, .string q.ob.status, .int .i64 q.ob.type, .int .i64 q.ob.policy, .slice p.A q.ob.fams.length p.c, .slice i.A q.ob.ips.length i.c, .string q.ob.v4, .string q.ob.v6, .int .i64 q.ob.bits, .string q.ob.sel, .string q.ob.about, .string q.ob.reason, .int .i64 k0, .string nm, .int .i64 q.version] #[] zrq w4 := hB0
      clear hB0
      refine hK.out _ _ (trivial) (fun hHeld => ?_)
      clear hK K; try simp only [Act.put, s1, s2, s3]
      refine tk 10 1 (.string r2) ?_; (try simp only [s1, s2, s3])
      refine wpAnyH_done (by kernel_rfl) ?_ _
      repeat clear hHeld
      clear hS0
      have c0 : w4.cell? ⟨x, 0, none⟩ = some (.int .i64 q.op) := by simp [World.cell?, hB4.fz]
      have HBx := Lib.hid hB4
      clear hB4
      go_upto_region 13 with (fail)
      have hB := HBx.out
      clear c0
      iterate 1 (first | go_values | go_skip | go_guarded | go_step)
      refine wpList_load_row rfl 51 (.tmp 2) rfl x rfl 51 _ (0, 0) _ hB.fz Try.underlying51 rfl size51 ?_
      iterate 6 (first | go_values | go_skip | go_guarded | go_step)
      refine wpList_store_row rfl 51 (.tmp 4) (.tmp 58) rfl y #[.int .i64 q.op, .int .i64 q.ob.kind, .string q.ob.name, .int .i64 q.ob.uid, .int .i64 q.ob.version, .bool q.ob.deleting, .slice f.A q.ob.fins.length f.c, .slice l.A q.ob.labels.length l.c, .slice c.A q.ob.cidrs.length c.c, .string q.ob.status, .int .i64 q.ob.type, .int .i64 q.ob.policy, .slice p.A q.ob.fams.length p.c, .slice i.A q.ob.ips.length i.c, .string q.ob.v4, .string q.ob.v6, .int .i64 q.ob.bits, .string q.ob.sel, .string q.ob.about, .string q.ob.reason, .int .i64 k0, .string nm, .int .i64 q.version] rfl rfl 51 _ hB.fy size51 rfl (by simp [Value.oneCell', zrq]) ?_
      have HBF := Lib.hid hB
      clear hB
      go_wp2
      refine bodyPost_ret (results_ct rfl _ _ y 51 #[.int .i64 q.op, .int .i64 q.ob.kind, .string q.ob.name, .int .i64 q.ob.uid, .int .i64 q.ob.version, .bool q.ob.deleting, .slice f.A q.ob.fins.length f.c, .slice l.A q.ob.labels.length l.c, .slice c.A q.ob.cidrs.length c.c, .string q.ob.status, .int .i64 q.ob.type, .int .i64 q.ob.policy, .slice p.A q.ob.fams.length p.c, .slice i.A q.ob.ips.length i.c, .string q.ob.v4, .string q.ob.v6, .int .i64 q.ob.bits, .string q.ob.sel, .string q.ob.about, .string q.ob.reason, .int .i64 k0, .string nm, .int .i64 q.version] (0, 0) _ rfl (setRow_heap _ _ _ _ _ _ HBF.out.fy) Try.underlying51 rfl size51) rfl ⟨?_, ?_⟩
      · rw [HS.out]; rfl
      · exact HBF.out.b.trans ⟨rfl, rfl, rfl, by rw [size_setRow]; exact Nat.le_refl _, fun j hj => setRow_other _ _ _ _ (by rw [HY.out]; omega)⟩
    exact AllReadyH.nil
  exact AllReadyH.nil
set_option maxRecDepth 100000 in
set_option maxHeartbeats 4000000 in
theorem rest_ob (q : Rq) (f l c p i : Sl) (s : ByteArray) (hs : s.size ≤ 500000) (h0 : ¬ s.size = 0) (h5 : ¬ q.op = 5) (h1 : ¬ (from1 s).size = 0) (h2 : ¬ byte0 (from1 s) > (from1 s).size - 1) (h3 : ¬ q.op = 3) (h4 : ¬ (behS (from1 s)).size = 0) (w : World) :
    Calls Try.prog 58 #[.agg (rq q f l c p i), .string s] w fun e w' => e = .returned (.tuple #[.agg (rq (restS q s).1 f l c p i), .bool (restS q s).2]) ∧ Below w.heap.size w w' := by
  obtain ⟨w1, hw1, b1, p1, q1⟩ := two_rqs w (rq q f l c p i) zrq
  obtain ⟨x, hx⟩ : ∃ x, x = w.heap.size := ⟨_, rfl⟩
  obtain ⟨y, hy⟩ : ∃ y, y = w.heap.size + 1 := ⟨_, rfl⟩
  rw [← hx] at p1
  rw [← hy] at q1
  have hB0 : BQ w x x y (rq q f l c p i) #[] zrq w1 := ⟨p1, fun h => absurd rfl h, q1, b1, by omega, by omega⟩
  have HB := Lib.hid hB0
  have hS : restS q s = ({ q with kind := byte0 s, name := nameS (from1 s) }, false) := by unfold restS; rw [if_neg h0, if_neg h5, if_neg (by rintro (h | h); exact h1 h; exact h2 h)]; unfold endS; rw [if_neg h3, decide_eq_false h4]
  have HS := Lib.hid hS
  have HW := Lib.hid hw1
  have HY := Lib.hid hy
  have e0 : s.toList.isEmpty = false := not_empty h0
  have ix := ix0 s (by omega)
  have hl1 := sl1 s 1 1 rfl (by omega)
  have hz1 : (from1 s).size = s.size - 1 := by unfold from1; rw [ByteArray.size_extract]; omega
  have e1 : (from1 s).toList.isEmpty = false := not_empty h1
  have iy := ix0 (from1 s) (by omega)
  have g4 := byte0_lt (from1 s)
  have g5 := g4.1
  have g6 := g4.2
  have wy : IntKind.i64.wrap (byte0 (from1 s)) = byte0 (from1 s) := (by rw [IntKind.wrap_i64]; omega)
  have d2 : decide ((from1 s).size - 1 < byte0 (from1 s)) = false := decide_eq_false (by omega)
  have wz : IntKind.i64.wrap (1 + byte0 (from1 s)) = 1 + byte0 (from1 s) := (by rw [IntKind.wrap_i64]; omega)
  have hz2 : (1 : Int) ≤ (from1 s).size := by omega
  have hz3 : ((from1 s).size : Int) ≤ 500000 := by omega
  have hm : byte0 (from1 s) = ((byte0 (from1 s)).toNat : Int) := by omega
  have ln : ∀ W, (Instr.slice 9 (.string (from1 s)) (some (.int .i64 1)) (some (.int .i64 (1 + byte0 (from1 s)))) none).run Try.prog W = .ok (.string (nameS (from1 s))) W := slc (from1 s) 1 (1 + byte0 (from1 s)) 1 (1 + (byte0 (from1 s)).toNat) rfl (by omega) (by omega) (by omega)
  have lb : ∀ W, (Instr.slice 9 (.string (from1 s)) (some (.int .i64 (1 + byte0 (from1 s)))) none none).run Try.prog W = .ok (.string (behS (from1 s))) W := sl1 (from1 s) (1 + byte0 (from1 s)) (1 + (byte0 (from1 s)).toNat) (by omega) (by omega)
  have hzb : (behS (from1 s)).size ≤ 500000 := by unfold behS; rw [ByteArray.size_extract]; omega
  have e2 : (behS (from1 s)).toList.isEmpty = false := not_empty h4
  have g0 := byte0_lt s
  have g1 := g0.1
  have g2 := g0.2
  have wx : IntKind.i64.wrap (byte0 s) = byte0 s := (by rw [IntKind.wrap_i64]; omega)
  have k5 : (q.op != 5) = true := by simpa using h5
  have k3 : (q.op == 3) = false := by simpa using h3
  obtain ⟨r1, hs1⟩ : ∃ r1, r1 = from1 s := ⟨_, rfl⟩
  have hl2 : ∀ W, (Instr.slice 9 (.string s) (some (.int .i64 1)) none none).run Try.prog W = .ok (.string (from1 s)) W := hl1
  clear hl1
  obtain ⟨nm, hnm⟩ : ∃ nm, nm = nameS (from1 s) := ⟨_, rfl⟩
  obtain ⟨r2, hs2⟩ : ∃ r2, r2 = behS (from1 s) := ⟨_, rfl⟩
  obtain ⟨k1, hk1⟩ : ∃ k1, k1 = byte0 (from1 s) := ⟨_, rfl⟩
  obtain ⟨k0, hk0⟩ : ∃ k0, k0 = byte0 s := ⟨_, rfl⟩
  clear b1 p1 q1 hw1 hB0 hS h0 h1 hz1 h2 g4 hm h3 h4 h5 g0
  simp only [← hk1, ← hnm, ← hs2] at HS ix hl2 e1 g1 g2 wx iy g5 g6 wy wz d2 hz2 hz3 ln lb hzb e2
  simp only [← hk0, ← hs1] at HS ix hl2 e1 g1 g2 wx iy g5 g6 wy wz d2 hz2 hz3 ln lb hzb e2
  clear hk0 hk1 hnm hs2 hs1
  go_enter Try.func58, Try.ntmps58
  go_upto_region 1 with (fail)
  rw [← HW.out, ← hy, ← hx]
  clear hx hy
  go_upto_region 3 with (fail)
  refine wp_region_held_drew (S := fun _ => True) (by kernel_rfl) trivial (fun hS0 => ?_)
  refine tk 0 12 (.string s) ?_; (try simp only [s1, s2, s3]); refine tk 1 13 (.int .u8 k0) ?_; (try simp only [s1, s2, s3]); refine tk 2 14 (.int .i64 k0) ?_; (try simp only [s1, s2, s3]); refine tk 3 15 (.string s) ?_; (try simp only [s1, s2, s3]); refine tk 4 16 (.string r1) ?_; (try simp only [s1, s2, s3]); refine tk 5 17 (.pointer (some ⟨x, 20, none⟩)) ?_; (try simp only [s1, s2, s3])
  refine wpAnyH_ready (rs := [6]) (by kernel_rfl) (by simp) ?_
  refine AllReadyH.cons rfl (fun K hK => ?_) ?_
  · rw [if_pos (by rfl)]
    refine wp_storeQ 3 (.tmp 17) (.tmp 14) rfl rfl 20 (by (go_simp; try rfl)) (.int .i64 k0) (by (go_simp; try rfl)) rfl (by kernel_rfl) HB.out.drew (Nat.lt_of_sub_eq_succ rfl) ?_
    intro w3 hB0
    have hB3 : BQ w x x y #[.int .i64 q.op, .int .i64 q.ob.kind, .string q.ob.name, .int .i64 q.ob.uid, .int .i64 q.ob.version, .bool q.ob.deleting, .slice f.A q.ob.fins.length f.c, .slice l.A q.ob.labels.length l.c, .slice c.A q.ob.cidrs.length c.c, .string q.ob.status, .int .i64 q.ob.type, .int .i64 q.ob.policy, .slice p.A q.ob.fams.length p.c, .slice i.A q.ob.ips.length i.c, .string q.ob.v4, .string q.ob.v6, .int .i64 q.ob.bits, .string q.ob.sel, .string q.ob.about, .string q.ob.reason, .int .i64 k0, .string q.name, .int .i64 q.version] #[] zrq w3 := hB0
    clear hB0
    refine hK.out _ _ (trivial) (fun hHeld => ?_)
    clear hK K; try simp only [Act.put, s1, s2, s3]
    refine tk 7 1 (.string r1) ?_; (try simp only [s1, s2, s3])
    refine wpAnyH_done (by kernel_rfl) ?_ _
    repeat clear hHeld
    clear hS0
    have hB := hB3
    have c0 : w3.cell? ⟨x, 0, none⟩ = some (.int .i64 q.op) := by simp [World.cell?, hB3.fz]
    have HB3 := Lib.hid hB3
    clear hB3
    clear hB
    go_upto_region 8 with (fail)
    clear c0
    refine wp_region_held_drew (S := fun _ => True) (by kernel_rfl) trivial (fun hS0 => ?_)
    refine tk 0 36 (.string r1) ?_; (try simp only [s1, s2, s3]); refine tk 1 37 (.int .i64 k1) ?_; (try simp only [s1, s2, s3]); refine tk 2 38 (.int .i64 (1 + k1)) ?_; (try simp only [s1, s2, s3]); refine tk 3 39 (.string nm) ?_; (try simp only [s1, s2, s3]); refine tk 4 40 (.string r1) ?_; (try simp only [s1, s2, s3]); refine tk 5 41 (.int .i64 k1) ?_; (try simp only [s1, s2, s3]); refine tk 6 42 (.int .i64 (1 + k1)) ?_; (try simp only [s1, s2, s3]); refine tk 7 43 (.string r2) ?_; (try simp only [s1, s2, s3]); refine tk 8 44 (.pointer (some ⟨x, 21, none⟩)) ?_; (try simp only [s1, s2, s3])
    refine wpAnyH_ready (rs := [9]) (by kernel_rfl) (by simp) ?_
    refine AllReadyH.cons rfl (fun K hK => ?_) ?_
    · rw [if_pos (by rfl)]
      refine wp_storeQ 9 (.tmp 44) (.tmp 39) rfl rfl 21 (by (go_simp; try rfl)) (.string nm) (by (go_simp; try rfl)) rfl (by kernel_rfl) HB3.out.drew (Nat.lt_of_sub_eq_succ rfl) ?_
      intro w4 hB0
      have hB4 : BQ w x x y #[.int .i64 q.op, .int .i64 q.ob.kind, .string q.ob.name, .int .i64 q.ob.uid, .int .i64 q.ob.version, .bool q.ob.deleting, .slice f.A q.ob.fins.length f.c, .slice l.A q.ob.labels.length l.c, .slice c.A q.ob.cidrs.length c.c, .string q.ob.status, .int .i64 q.ob.type, .int .i64 q.ob.policy, .slice p.A q.ob.fams.length p.c, .slice i.A q.ob.ips.length i.c, .string q.ob.v4, .string q.ob.v6, .int .i64 q.ob.bits, .string q.ob.sel, .string q.ob.about, .string q.ob.reason, .int .i64 k0, .string nm, .int .i64 q.version] #[] zrq w4 := hB0
      clear hB0
      refine hK.out _ _ (trivial) (fun hHeld => ?_)
      clear hK K; try simp only [Act.put, s1, s2, s3]
      refine tk 10 1 (.string r2) ?_; (try simp only [s1, s2, s3])
      refine wpAnyH_done (by kernel_rfl) ?_ _
      repeat clear hHeld
      clear hS0
      have c0 : w4.cell? ⟨x, 0, none⟩ = some (.int .i64 q.op) := by simp [World.cell?, hB4.fz]
      have HBx := Lib.hid hB4
      clear hB4
      go_upto_region 13 with (fail)
      have hB := HBx.out
      clear c0
      iterate 1 (first | go_values | go_skip | go_guarded | go_step)
      refine wpList_load_row rfl 51 (.tmp 2) rfl x rfl 51 _ (0, 0) _ hB.fz Try.underlying51 rfl size51 ?_
      iterate 6 (first | go_values | go_skip | go_guarded | go_step)
      refine wpList_store_row rfl 51 (.tmp 4) (.tmp 58) rfl y #[.int .i64 q.op, .int .i64 q.ob.kind, .string q.ob.name, .int .i64 q.ob.uid, .int .i64 q.ob.version, .bool q.ob.deleting, .slice f.A q.ob.fins.length f.c, .slice l.A q.ob.labels.length l.c, .slice c.A q.ob.cidrs.length c.c, .string q.ob.status, .int .i64 q.ob.type, .int .i64 q.ob.policy, .slice p.A q.ob.fams.length p.c, .slice i.A q.ob.ips.length i.c, .string q.ob.v4, .string q.ob.v6, .int .i64 q.ob.bits, .string q.ob.sel, .string q.ob.about, .string q.ob.reason, .int .i64 k0, .string nm, .int .i64 q.version] rfl rfl 51 _ hB.fy size51 rfl (by simp [Value.oneCell', zrq]) ?_
      have HBF := Lib.hid hB
      clear hB
      go_wp2
      refine bodyPost_ret (results_ct rfl _ _ y 51 #[.int .i64 q.op, .int .i64 q.ob.kind, .string q.ob.name, .int .i64 q.ob.uid, .int .i64 q.ob.version, .bool q.ob.deleting, .slice f.A q.ob.fins.length f.c, .slice l.A q.ob.labels.length l.c, .slice c.A q.ob.cidrs.length c.c, .string q.ob.status, .int .i64 q.ob.type, .int .i64 q.ob.policy, .slice p.A q.ob.fams.length p.c, .slice i.A q.ob.ips.length i.c, .string q.ob.v4, .string q.ob.v6, .int .i64 q.ob.bits, .string q.ob.sel, .string q.ob.about, .string q.ob.reason, .int .i64 k0, .string nm, .int .i64 q.version] (0, 0) _ rfl (setRow_heap _ _ _ _ _ _ HBF.out.fy) Try.underlying51 rfl size51) rfl ⟨?_, ?_⟩
      · rw [HS.out]; rfl
      · exact HBF.out.b.trans ⟨rfl, rfl, rfl, by rw [size_setRow]; exact Nat.le_refl _, fun j hj => setRow_other _ _ _ _ (by rw [HY.out]; omega)⟩
    exact AllReadyH.nil
  exact AllReadyH.nil
theorem rest_any (q : Rq) (f l c p i : Sl) (s : ByteArray) (hs : s.size ≤ 500000) (w : World) :
    Calls Try.prog 58 #[.agg (rq q f l c p i), .string s] w fun e w' => e = .returned (.tuple #[.agg (rq (restS q s).1 f l c p i), .bool (restS q s).2]) ∧ Below w.heap.size w w' := by
  by_cases h0 : s.size = 0
  · exact rest_n q f l c p i s hs h0 w
  by_cases h5 : q.op = 5
  · by_cases h1 : (from1 s).size = 0
    · exact rest_5a q f l c p i s hs h0 h5 h1 w
    · exact rest_5b q f l c p i s hs h0 h5 h1 w
  by_cases h1 : (from1 s).size = 0
  · exact rest_e q f l c p i s hs h0 h5 h1 w
  by_cases h2 : byte0 (from1 s) > (from1 s).size - 1
  · exact rest_l q f l c p i s hs h0 h5 h1 h2 w
  by_cases h3 : q.op = 3
  · exact rest_3 q f l c p i s hs h0 h5 h1 h2 h3 w
  by_cases h4 : (behS (from1 s)).size = 0
  · exact rest_oa q f l c p i s hs h0 h5 h1 h2 h3 h4 w
  · exact rest_ob q f l c p i s hs h0 h5 h1 h2 h3 h4 w
end Go.Proofs.Ytolndeolehkjoaa
