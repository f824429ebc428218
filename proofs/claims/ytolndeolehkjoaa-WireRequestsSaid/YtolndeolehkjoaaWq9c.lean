/- Requests: Only, of any operation. -/
import Derived.Test.YtolndeolehkjoaaWq4c
namespace Go.Proofs.Ytolndeolehkjoaa
set_option linter.unusedVariables false
set_option linter.unusedSimpArgs false
open Go.RowKit CodP
def onlyR (q : Rq) : Rq := if 1 ≤ q.op ∧ q.op ≤ 5 then onlyQ q else ⟨q.op, zeroOb, 0, ⟨#[]⟩, 0⟩
set_option maxRecDepth 100000 in
set_option maxHeartbeats 4000000 in
theorem onlyq_lo (q : Rq) (f l c p i : Sl) (hk : q.op < 1) (w : World) :
    Calls Try.prog 29 #[.agg (rq q f l c p i)] w fun e w' => e = .returned (.agg (rq (onlyR q) Sl0 Sl0 Sl0 Sl0 Sl0)) ∧ Below w.heap.size w w' := by
  obtain ⟨w1, hw1, b1, p1, q1⟩ := two_rqs w (rq q f l c p i) zrq
  obtain ⟨x, hx⟩ : ∃ x, x = w.heap.size := ⟨_, rfl⟩
  obtain ⟨y, hy⟩ : ∃ y, y = w.heap.size + 1 := ⟨_, rfl⟩
  rw [← hx] at p1
  rw [← hy] at q1
  have x0 : w1.cell? ⟨x, 0, none⟩ = some (.int .i64 q.op) := by simp [World.cell?, p1, rq]
  obtain ⟨z, hz⟩ : ∃ z, z = w1.heap.size := ⟨_, rfl⟩
  have b2 := bel_allocRow51 w1 zrq #[.int .i64 q.op, .int .i64 0, .string ⟨#[]⟩, .int .i64 0, .int .i64 0, .bool false, .slice none 0 0, .slice none 0 0, .slice none 0 0, .string ⟨#[]⟩, .int .i64 0, .int .i64 0, .slice none 0 0, .slice none 0 0, .string ⟨#[]⟩, .string ⟨#[]⟩, .int .i64 0, .string ⟨#[]⟩, .string ⟨#[]⟩, .string ⟨#[]⟩, .int .i64 0, .string ⟨#[]⟩, .int .i64 0]
  obtain ⟨w2, hw2⟩ : ∃ w2, w2 = (w1.alloc (.cells zrq 51)).setRow w1.heap.size #[.int .i64 q.op, .int .i64 0, .string ⟨#[]⟩, .int .i64 0, .int .i64 0, .bool false, .slice none 0 0, .slice none 0 0, .slice none 0 0, .string ⟨#[]⟩, .int .i64 0, .int .i64 0, .slice none 0 0, .slice none 0 0, .string ⟨#[]⟩, .string ⟨#[]⟩, .int .i64 0, .string ⟨#[]⟩, .string ⟨#[]⟩, .string ⟨#[]⟩, .int .i64 0, .string ⟨#[]⟩, .int .i64 0] := ⟨_, rfl⟩
  rw [← hw2] at b2
  have f2 : w2.heap[z]? = some (.cells #[.int .i64 q.op, .int .i64 0, .string ⟨#[]⟩, .int .i64 0, .int .i64 0, .bool false, .slice none 0 0, .slice none 0 0, .slice none 0 0, .string ⟨#[]⟩, .int .i64 0, .int .i64 0, .slice none 0 0, .slice none 0 0, .string ⟨#[]⟩, .string ⟨#[]⟩, .int .i64 0, .string ⟨#[]⟩, .string ⟨#[]⟩, .string ⟨#[]⟩, .int .i64 0, .string ⟨#[]⟩, .int .i64 0] 51 (0, 0)) := by rw [hw2, hz]; exact setRow_heap _ _ _ _ _ _ (G.heap_new _ _)
  have f3 : w2.heap[x]? = some (.cells (rq q f l c p i) 51 (0, 0)) := (b2.block x (Array.getElem?_eq_some_iff.1 p1).1).trans p1
  have f4 : w2.heap[y]? = some (.cells zrq 51 (0, 0)) := (b2.block y (Array.getElem?_eq_some_iff.1 q1).1).trans q1
  have c0 : w2.cell? ⟨x, 0, none⟩ = some (.int .i64 q.op) := by simp [World.cell?, f3, rq]
  have hbq : onlyR q = ⟨q.op, zeroOb, 0, ⟨#[]⟩, 0⟩ := if_neg (by omega)
  have HBQ := Lib.hid hbq
  have HY := Lib.hid hy
  have HW := Lib.hid hw1
  have HW2 := Lib.hid hw2
  have F2 := Lib.hid f2
  have F4 := Lib.hid f4
  have C0 := Lib.hid c0
  have B2 := Lib.hid (b1.trans (belowLe b1.size b2))
  have d1 : (q.op == 1) = false := by simp; omega
  have d2 : (q.op == 2) = false := by simp; omega
  have d3' : (q.op == 3) = false := by simp; omega
  have d4 : (q.op == 4) = false := by simp; omega
  have d3 : decide (3 ≤ q.op) = false := decide_eq_false (by omega)
  clear b1 b2 p1 q1 hw1 hw2 f2 f3 f4 c0 hk hbq
  go_enter Try.func29, Try.ntmps29
  go_upto_region 1 with (fail)
  rw [← HW.out, ← hy, ← hx]
  clear hx hy
  iterate 13 (first | go_values | go_skip | go_guarded | go_step)
  refine wpList_store_row rfl 51 (.tmp 3) (.tmp 6) rfl _ #[.int .i64 q.op, .int .i64 0, .string ⟨#[]⟩, .int .i64 0, .int .i64 0, .bool false, .slice none 0 0, .slice none 0 0, .slice none 0 0, .string ⟨#[]⟩, .int .i64 0, .int .i64 0, .slice none 0 0, .slice none 0 0, .string ⟨#[]⟩, .string ⟨#[]⟩, .int .i64 0, .string ⟨#[]⟩, .string ⟨#[]⟩, .string ⟨#[]⟩, .int .i64 0, .string ⟨#[]⟩, .int .i64 0] rfl rfl 51 _ (G.heap_new _ _) size51 rfl (by simp [Value.oneCell', zrq]) ?_
  rw [← HW2.out, ← hz]
  clear hz x0
  have c0 := C0.out
  go_upto_region 10 with (fail)
  clear c0
  iterate 1 (first | go_values | go_skip | go_guarded | go_step)
  refine wpList_load_row rfl 51 (.tmp 3) rfl z rfl 51 _ (0, 0) _ F2.out Try.underlying51 rfl size51 ?_
  refine wpList_store_row rfl 51 (.tmp 2) (.tmp 46) rfl y #[.int .i64 q.op, .int .i64 0, .string ⟨#[]⟩, .int .i64 0, .int .i64 0, .bool false, .slice none 0 0, .slice none 0 0, .slice none 0 0, .string ⟨#[]⟩, .int .i64 0, .int .i64 0, .slice none 0 0, .slice none 0 0, .string ⟨#[]⟩, .string ⟨#[]⟩, .int .i64 0, .string ⟨#[]⟩, .string ⟨#[]⟩, .string ⟨#[]⟩, .int .i64 0, .string ⟨#[]⟩, .int .i64 0] rfl rfl 51 _ F4.out size51 rfl (by simp [Value.oneCell', zrq]) ?_
  go_wp2
  refine bodyPost_ret (results_cell_row rfl _ _ y 51 #[.int .i64 q.op, .int .i64 0, .string ⟨#[]⟩, .int .i64 0, .int .i64 0, .bool false, .slice none 0 0, .slice none 0 0, .slice none 0 0, .string ⟨#[]⟩, .int .i64 0, .int .i64 0, .slice none 0 0, .slice none 0 0, .string ⟨#[]⟩, .string ⟨#[]⟩, .int .i64 0, .string ⟨#[]⟩, .string ⟨#[]⟩, .string ⟨#[]⟩, .int .i64 0, .string ⟨#[]⟩, .int .i64 0] (0, 0) _ rfl (setRow_heap _ _ _ _ _ _ F4.out) Try.underlying51 rfl size51) rfl ⟨?_, ?_⟩
  · rw [HBQ.out]; rfl
  · exact B2.out.trans ⟨rfl, rfl, rfl, by rw [size_setRow]; exact Nat.le_refl _, fun j hj => setRow_other _ _ _ _ (by rw [HY.out]; omega)⟩
set_option maxRecDepth 100000 in
set_option maxHeartbeats 4000000 in
theorem onlyq_hi (q : Rq) (f l c p i : Sl) (hk : 5 < q.op) (w : World) :
    Calls Try.prog 29 #[.agg (rq q f l c p i)] w fun e w' => e = .returned (.agg (rq (onlyR q) Sl0 Sl0 Sl0 Sl0 Sl0)) ∧ Below w.heap.size w w' := by
  obtain ⟨w1, hw1, b1, p1, q1⟩ := two_rqs w (rq q f l c p i) zrq
  obtain ⟨x, hx⟩ : ∃ x, x = w.heap.size := ⟨_, rfl⟩
  obtain ⟨y, hy⟩ : ∃ y, y = w.heap.size + 1 := ⟨_, rfl⟩
  rw [← hx] at p1
  rw [← hy] at q1
  have x0 : w1.cell? ⟨x, 0, none⟩ = some (.int .i64 q.op) := by simp [World.cell?, p1, rq]
  obtain ⟨z, hz⟩ : ∃ z, z = w1.heap.size := ⟨_, rfl⟩
  have b2 := bel_allocRow51 w1 zrq #[.int .i64 q.op, .int .i64 0, .string ⟨#[]⟩, .int .i64 0, .int .i64 0, .bool false, .slice none 0 0, .slice none 0 0, .slice none 0 0, .string ⟨#[]⟩, .int .i64 0, .int .i64 0, .slice none 0 0, .slice none 0 0, .string ⟨#[]⟩, .string ⟨#[]⟩, .int .i64 0, .string ⟨#[]⟩, .string ⟨#[]⟩, .string ⟨#[]⟩, .int .i64 0, .string ⟨#[]⟩, .int .i64 0]
  obtain ⟨w2, hw2⟩ : ∃ w2, w2 = (w1.alloc (.cells zrq 51)).setRow w1.heap.size #[.int .i64 q.op, .int .i64 0, .string ⟨#[]⟩, .int .i64 0, .int .i64 0, .bool false, .slice none 0 0, .slice none 0 0, .slice none 0 0, .string ⟨#[]⟩, .int .i64 0, .int .i64 0, .slice none 0 0, .slice none 0 0, .string ⟨#[]⟩, .string ⟨#[]⟩, .int .i64 0, .string ⟨#[]⟩, .string ⟨#[]⟩, .string ⟨#[]⟩, .int .i64 0, .string ⟨#[]⟩, .int .i64 0] := ⟨_, rfl⟩
  rw [← hw2] at b2
  have f2 : w2.heap[z]? = some (.cells #[.int .i64 q.op, .int .i64 0, .string ⟨#[]⟩, .int .i64 0, .int .i64 0, .bool false, .slice none 0 0, .slice none 0 0, .slice none 0 0, .string ⟨#[]⟩, .int .i64 0, .int .i64 0, .slice none 0 0, .slice none 0 0, .string ⟨#[]⟩, .string ⟨#[]⟩, .int .i64 0, .string ⟨#[]⟩, .string ⟨#[]⟩, .string ⟨#[]⟩, .int .i64 0, .string ⟨#[]⟩, .int .i64 0] 51 (0, 0)) := by rw [hw2, hz]; exact setRow_heap _ _ _ _ _ _ (G.heap_new _ _)
  have f3 : w2.heap[x]? = some (.cells (rq q f l c p i) 51 (0, 0)) := (b2.block x (Array.getElem?_eq_some_iff.1 p1).1).trans p1
  have f4 : w2.heap[y]? = some (.cells zrq 51 (0, 0)) := (b2.block y (Array.getElem?_eq_some_iff.1 q1).1).trans q1
  have c0 : w2.cell? ⟨x, 0, none⟩ = some (.int .i64 q.op) := by simp [World.cell?, f3, rq]
  have hbq : onlyR q = ⟨q.op, zeroOb, 0, ⟨#[]⟩, 0⟩ := if_neg (by omega)
  have HBQ := Lib.hid hbq
  have HY := Lib.hid hy
  have HW := Lib.hid hw1
  have HW2 := Lib.hid hw2
  have F2 := Lib.hid f2
  have F4 := Lib.hid f4
  have C0 := Lib.hid c0
  have B2 := Lib.hid (b1.trans (belowLe b1.size b2))
  have d1 : (q.op == 1) = false := by simp; omega
  have d2 : (q.op == 2) = false := by simp; omega
  have d3' : (q.op == 3) = false := by simp; omega
  have d4 : (q.op == 4) = false := by simp; omega
  have d3 : decide (3 ≤ q.op) = true := decide_eq_true (by omega)
  have d5 : decide (q.op ≤ 5) = false := decide_eq_false (by omega)
  clear b1 b2 p1 q1 hw1 hw2 f2 f3 f4 c0 hk hbq
  go_enter Try.func29, Try.ntmps29
  go_upto_region 1 with (fail)
  rw [← HW.out, ← hy, ← hx]
  clear hx hy
  iterate 13 (first | go_values | go_skip | go_guarded | go_step)
  refine wpList_store_row rfl 51 (.tmp 3) (.tmp 6) rfl _ #[.int .i64 q.op, .int .i64 0, .string ⟨#[]⟩, .int .i64 0, .int .i64 0, .bool false, .slice none 0 0, .slice none 0 0, .slice none 0 0, .string ⟨#[]⟩, .int .i64 0, .int .i64 0, .slice none 0 0, .slice none 0 0, .string ⟨#[]⟩, .string ⟨#[]⟩, .int .i64 0, .string ⟨#[]⟩, .string ⟨#[]⟩, .string ⟨#[]⟩, .int .i64 0, .string ⟨#[]⟩, .int .i64 0] rfl rfl 51 _ (G.heap_new _ _) size51 rfl (by simp [Value.oneCell', zrq]) ?_
  rw [← HW2.out, ← hz]
  clear hz x0
  have c0 := C0.out
  go_upto_region 10 with (fail)
  clear c0
  iterate 1 (first | go_values | go_skip | go_guarded | go_step)
  refine wpList_load_row rfl 51 (.tmp 3) rfl z rfl 51 _ (0, 0) _ F2.out Try.underlying51 rfl size51 ?_
  refine wpList_store_row rfl 51 (.tmp 2) (.tmp 46) rfl y #[.int .i64 q.op, .int .i64 0, .string ⟨#[]⟩, .int .i64 0, .int .i64 0, .bool false, .slice none 0 0, .slice none 0 0, .slice none 0 0, .string ⟨#[]⟩, .int .i64 0, .int .i64 0, .slice none 0 0, .slice none 0 0, .string ⟨#[]⟩, .string ⟨#[]⟩, .int .i64 0, .string ⟨#[]⟩, .string ⟨#[]⟩, .string ⟨#[]⟩, .int .i64 0, .string ⟨#[]⟩, .int .i64 0] rfl rfl 51 _ F4.out size51 rfl (by simp [Value.oneCell', zrq]) ?_
  go_wp2
  refine bodyPost_ret (results_cell_row rfl _ _ y 51 #[.int .i64 q.op, .int .i64 0, .string ⟨#[]⟩, .int .i64 0, .int .i64 0, .bool false, .slice none 0 0, .slice none 0 0, .slice none 0 0, .string ⟨#[]⟩, .int .i64 0, .int .i64 0, .slice none 0 0, .slice none 0 0, .string ⟨#[]⟩, .string ⟨#[]⟩, .int .i64 0, .string ⟨#[]⟩, .string ⟨#[]⟩, .string ⟨#[]⟩, .int .i64 0, .string ⟨#[]⟩, .int .i64 0] (0, 0) _ rfl (setRow_heap _ _ _ _ _ _ F4.out) Try.underlying51 rfl size51) rfl ⟨?_, ?_⟩
  · rw [HBQ.out]; rfl
  · exact B2.out.trans ⟨rfl, rfl, rfl, by rw [size_setRow]; exact Nat.le_refl _, fun j hj => setRow_other _ _ _ _ (by rw [HY.out]; omega)⟩
theorem onlyr_any (q : Rq) (f l c p i : Sl) (w : World) (hr : RowsR w q.ob f l c p i) :
    Calls Try.prog 29 #[.agg (rq q f l c p i)] w fun e w' => ∃ f' l' c' p' i', e = .returned (.agg (rq (onlyR q) f' l' c' p' i')) ∧ RowsR w' (onlyR q).ob f' l' c' p' i' ∧ Below w.heap.size w w' := by
  by_cases hk : 1 ≤ q.op ∧ q.op ≤ 5
  · have e : onlyR q = onlyQ q := if_pos hk
    rw [e]
    exact onlyq_any q f l c p i hk w hr
  · have e : onlyR q = ⟨q.op, zeroOb, 0, ⟨#[]⟩, 0⟩ := if_neg hk
    have key : Calls Try.prog 29 #[.agg (rq q f l c p i)] w fun e w' => e = .returned (.agg (rq (onlyR q) Sl0 Sl0 Sl0 Sl0 Sl0)) ∧ Below w.heap.size w w' := by
      by_cases h1 : q.op < 1
      · exact onlyq_lo q f l c p i h1 w
      · exact onlyq_hi q f l c p i (by omega) w
    refine key.mono ?_
    rintro y w' ⟨h1, h2⟩
    exact ⟨Sl0, Sl0, Sl0, Sl0, Sl0, h1, by rw [e]; exact RowsR.zero w', h2⟩
end Go.Proofs.Ytolndeolehkjoaa
