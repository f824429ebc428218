/- The mirror's small functions: New, refOf, Len, Holders; all of them at a mirror that is not there. -/
import Derived.Test.YtmbmnldheilffaaMpB
namespace Go.Proofs.Ytmbmnldheilffaa
set_option linter.unusedVariables false
set_option linter.unusedSimpArgs false
open Go.RowKit
theorem new_any (w : World) : Calls Try.prog 16 #[] w fun e w' => ∃ mb d, e = .returned (.pointer (some ⟨mb, 0, none⟩)) ∧ MInv w.heap.size mb d w' ∧ MR d [] ∧ Below w.heap.size w w' := by
  have hmm := @run_makeMap Try.prog
  obtain ⟨w1, hw1⟩ : ∃ w1, w1 = w.alloc (.map #[] 0) := ⟨_, rfl⟩
  obtain ⟨w2, hw2⟩ : ∃ w2, w2 = w1.alloc (.map #[] 0) := ⟨_, rfl⟩
  have m1 : M.MapIs rv w1 w.heap.size [] := by rw [hw1]; exact M.MapIs.new rv w
  have m2 : M.MapIs tv w2 w1.heap.size [] := by rw [hw2]; exact M.MapIs.new tv w1
  have s1 : w1.heap.size = w.heap.size + 1 := by rw [hw1]; simp
  have s2 : w2.heap.size = w.heap.size + 2 := by rw [hw2]; simp; omega
  obtain ⟨w3, hw3⟩ : ∃ w3, w3 = w2.alloc (.cells #[.map (some w.heap.size), .map (some w1.heap.size)] 57) := ⟨_, rfl⟩
  have b1 : Below w.heap.size w w1 := by rw [hw1]; exact bel_alloc _ _
  have b2 : Below w1.heap.size w1 w2 := by rw [hw2]; exact bel_alloc _ _
  have b3 : Below w2.heap.size w2 w3 := by rw [hw3]; exact bel_alloc _ _
  have hb : Below w.heap.size w w3 := G.bthen (G.bthen b1 b2) b3
  have hI : MInv w.heap.size w2.heap.size ⟨w.heap.size, w1.heap.size, [], []⟩ w3 := by
    refine ⟨by rw [hw3]; exact G.heap_new _ _, ⟨by omega, Nat.le_refl _, by show w.heap.size ≤ w1.heap.size; omega⟩, by show w.heap.size ≠ w1.heap.size; omega, ?_, ?_, List.Pairwise.nil, List.Pairwise.nil, by simp, by simp, by simp, by simp⟩
    · exact m1.of_block (((b3.block _ (by omega)).trans (b2.block _ (by omega))))
    · exact m2.of_block (b3.block _ (by omega))
  rw [s1] at hw3
  rw [s1, s2] at hI
  have HI := Lib.hid hI
  have HB := Lib.hid hb
  have HW := Lib.hid hw3
  have HW1 := Lib.hid hw1
  have HW2 := Lib.hid hw2
  clear hI hb b1 b2 b3 m1 m2 s1 s2 hw1 hw2 hw3
  go_enter Try.func16, Try.ntmps16
  go_wp2
  refine bodyPost_ret (results_tmp rfl _ _ _) rfl ?_
  refine ⟨w.heap.size + 1 + 1, ⟨w.heap.size, w.heap.size + 1, [], []⟩, rfl, ?_, MR.nil _ _, ?_⟩
  · have := HI.out
    rw [HW.out, HW2.out, HW1.out] at this
    exact this
  · have := HB.out
    rw [HW.out, HW2.out, HW1.out] at this
    exact this
theorem zob_one : zob.all (·.oneCell') = true := by simp [Value.oneCell']
theorem sizeR : (Try.prog.info? 34).map (·.size) = some 2 := by kernel_rfl
set_option maxRecDepth 100000 in
theorem refOf_any (o : Ob) (f l c p i : Sl) (w : World) : Calls Try.prog 23 #[.agg (oc o f l c p i)] w fun e w' => e = .returned (rv (refOf o)) ∧ Below w.heap.size w w' := by
  obtain ⟨w1, hw1⟩ : ∃ w1, w1 = w.alloc (.cells (oc o f l c p i) 26) := ⟨_, rfl⟩
  have b1 : Below w.heap.size w w1 := by rw [hw1]; exact bel_alloc _ _
  have p1 : w1.heap[w.heap.size]? = some (.cells (oc o f l c p i) 26 (0, 0)) := by rw [hw1]; exact G.heap_new _ _
  obtain ⟨w2, hw2⟩ : ∃ w2, w2 = w1.alloc (.cells #[.int .i64 0, .string ⟨#[]⟩] 34) := ⟨_, rfl⟩
  have b2 : Below w1.heap.size w1 w2 := by rw [hw2]; exact bel_alloc _ _
  have p2 : w2.heap[w.heap.size]? = some (.cells (oc o f l c p i) 26 (0, 0)) := (b2.block _ (Array.getElem?_eq_some_iff.1 p1).1).trans p1
  have k0 : w2.cell? ⟨w.heap.size, 0, none⟩ = some (.int .i64 o.kind) := by simp [World.cell?, p2, oc]
  have k1 : w2.cell? ⟨w.heap.size, 1, none⟩ = some (.string o.name) := by simp [World.cell?, p2, oc]
  have HB := Lib.hid (G.bthen b1 b2)
  rw [hw2, hw1] at k0 k1 HB
  clear b1 b2 p1 p2 hw1 hw2
  go_enter Try.func23, Try.ntmps23
  go_wp2
  refine bodyPost_ret (results_cell_row rfl _ _ (w.heap.size + 1) 34 #[.int .i64 o.kind, .string o.name] (0, 0) _ rfl ?_ Try.underlying34 rfl sizeR) rfl ⟨rfl, G.bthen (bel_alloc _ _) (bel_alloc _ _)⟩
  rw [show w.heap.size + 1 = (w.alloc (.cells (oc o f l c p i) 26)).heap.size by simp]
  exact G.heap_new _ _
theorem len_any (B mb : Nat) (d : MD) (w : World) (h : MInv B mb d w) : Calls Try.prog 12 #[.pointer (some ⟨mb, 0, none⟩)] w fun e w' => e = .returned (.int .i64 (d.obs.length : Nat)) ∧ w' = w := by
  have hl := M.len_run (P := Try.prog) Try.underlying54 3 h.mobs
  rw [mapv_len] at hl
  have c0 := h.c0
  have hlt := h.lt
  clear h
  go_enter Try.func12, Try.ntmps12
  go_wp2
  go_ret
  exact ⟨rfl, rfl⟩
/-! ### a mirror that is not there -/
theorem put_nil (v : Value) (hv : ∃ o f l c p i, v = .agg (oc o f l c p i)) (w : World) : Calls Try.prog 8 #[.pointer none, v] w fun e w' => e = .returned (.bool false) ∧ Below w.heap.size w w' := by
  obtain ⟨o, f, l, c, p, i, rfl⟩ := hv
  go_enter Try.func8, Try.ntmps8
  go_wp2
  go_ret
  exact ⟨rfl, bel_alloc _ _⟩
theorem drop_nil (r : Ref) (w : World) : Calls Try.prog 9 #[.pointer none, rv r] w fun e w' => e = .returned (.bool false) ∧ Below w.heap.size w w' := by
  unfold rv
  go_enter Try.func9, Try.ntmps9
  go_wp2
  go_ret
  exact ⟨rfl, bel_alloc _ _⟩
theorem all_nil (w : World) : Calls Try.prog 11 #[.pointer none] w fun e w' => e = .returned (.slice none 0 0) ∧ w' = w := by
  go_enter Try.func11, Try.ntmps11
  go_wp2
  go_ret
  exact ⟨rfl, rfl⟩
theorem len_nil (w : World) : Calls Try.prog 12 #[.pointer none] w fun e w' => e = .returned (.int .i64 0) ∧ w' = w := by
  go_enter Try.func12, Try.ntmps12
  go_wp2
  go_ret
  exact ⟨rfl, rfl⟩
theorem holders_nil (k : Int) (s : ByteArray) (w : World) : Calls Try.prog 13 #[.pointer none, .int .i64 k, .string s] w fun e w' => e = .returned (.slice none 0 0) ∧ Below w.heap.size w w' := by
  go_enter Try.func13, Try.ntmps13
  go_wp2
  go_ret
  exact ⟨rfl, Below.refl _ _⟩
theorem set_nil (A : Option Addr) (n c : Nat) (w : World) : Calls Try.prog 14 #[.pointer none, .slice A n c] w fun e w' => e = .returned (.slice none 0 0) ∧ Below w.heap.size w w' := by
  go_enter Try.func14, Try.ntmps14
  go_wp2
  go_ret
  exact ⟨rfl, Below.refl _ _⟩
set_option maxRecDepth 100000 in
theorem get_nil (r : Ref) (w : World) : Calls Try.prog 7 #[.pointer none, rv r] w fun e w' => e = .returned (.tuple #[.agg zob, .bool false]) ∧ Below w.heap.size w w' := by
  obtain ⟨w1, hw1⟩ : ∃ w1, w1 = (w.alloc (.cells #[.int .i64 r.kind, .string r.name] 34)).alloc (.cells zob 26) := ⟨_, rfl⟩
  have b1 : Below w.heap.size w w1 := by rw [hw1]; exact G.bthen (bel_alloc _ _) (bel_alloc _ _)
  obtain ⟨y, hy⟩ : ∃ y, y = w.heap.size + 1 := ⟨_, rfl⟩
  have q1 : w1.heap[y]? = some (.cells zob 26 (0, 0)) := by
    rw [hw1, hy]
    have h2 := G.heap_new (w.alloc (.cells #[.int .i64 r.kind, .string r.name] 34)) (.cells zob 26)
    rw [show (w.alloc (.cells #[.int .i64 r.kind, .string r.name] 34)).heap.size = w.heap.size + 1 by simp] at h2
    exact h2
  have HW := Lib.hid hw1
  have Q1 := Lib.hid q1
  have B1 := Lib.hid b1
  have HY := Lib.hid hy
  clear b1 q1 hw1
  unfold rv
  go_enter Try.func7, Try.ntmps7
  go_upto_region 1 with (fail)
  rw [← HW.out, ← hy]
  clear hy
  go_wp2_with (refine wpList_store_row rfl 26 (.tmp 4) (.tmp 10) rfl _ zob rfl rfl 26 _ Q1.out size32 rfl zob_one ?_)
  refine bodyPost_ret (results_ct rfl _ _ y 26 zob (0, 0) _ rfl (setRow_heap _ _ _ _ _ _ Q1.out) Try.underlying26 rfl size32) rfl ⟨rfl, ?_⟩
  exact B1.out.trans ⟨rfl, rfl, rfl, by rw [size_setRow]; exact Nat.le_refl _, fun j hj => setRow_other _ _ _ _ (by have := HY.out; omega)⟩
theorem list_nil (k : Int) (w : World) : Calls Try.prog 10 #[.pointer none, .int .i64 k] w fun e w' => e = .returned (.slice none 0 0) ∧ Below w.heap.size w w' := by
  go_enter Try.func10, Try.ntmps10
  go_wp2_with (go_at_call 11; refine (all_nil _).mono ?_; rintro e w1 ⟨rfl, hw1⟩)
  go_loopw [5, 11] (fun ll ii wr => ll = .slice none 0 0 ∧ ii = .int .i64 0 ∧ Hid (Below w.heap.size w wr)) (fun _ _ _ => 0)
  case atStart => exact ⟨rfl, rfl, Lib.hid (Below.refl _ _)⟩
  case round =>
    obtain ⟨rfl, rfl, H⟩ := hrel
    go_wp2
    go_ret
    exact ⟨rfl, H.out⟩
end Go.Proofs.Ytmbmnldheilffaa
