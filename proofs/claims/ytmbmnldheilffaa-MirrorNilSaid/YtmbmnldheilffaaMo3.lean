/- The fields of an object that are held against each other by themselves. -/
import Derived.Test.YtmbmnldheilffaaMo2
namespace Go.Proofs.Ytmbmnldheilffaa
set_option linter.unusedVariables false
set_option linter.unusedSimpArgs false
open Go.RowKit
def fl (o : Ob) : Array Value := #[.int .i64 o.kind, .int .i64 o.uid, .int .i64 o.version, .int .i64 o.type, .int .i64 o.policy, .int .i64 o.bits, .bool o.deleting, .string o.name, .string o.status, .string o.v4, .string o.v6, .string o.sel, .string o.about, .string o.reason]
def flatB (a b : Ob) : Bool := decide (a.kind = b.kind) && (decide (a.uid = b.uid) && (decide (a.version = b.version) && (decide (a.type = b.type) && (decide (a.policy = b.policy) && (decide (a.bits = b.bits) && (decide (a.deleting = b.deleting) && (decide (a.name = b.name) && (decide (a.status = b.status) && (decide (a.v4 = b.v4) && (decide (a.v6 = b.v6) && (decide (a.sel = b.sel) && (decide (a.about = b.about) && (decide (a.reason = b.reason))))))))))))))
theorem toList_iff (x y : ByteArray) : (x.toList = y.toList) = (x = y) := propext ⟨toList_inj, fun h => by rw [h]⟩
theorem str_beq (x y : ByteArray) : (x.toList == y.toList) = decide (x = y) := by
  by_cases h : x = y
  · subst h; simp
  · rw [str_ne h, decide_eq_false h]
theorem int_beq (x y : Int) : (x == y) = decide (x = y) := by
  by_cases h : x = y
  · subst h; simp
  · simp [h]
theorem str_dec (x y : ByteArray) : decide (x.toList = y.toList) = decide (x = y) := by
  by_cases h : x = y
  · subst h; simp
  · rw [decide_eq_false h]
    exact decide_eq_false fun e => h (toList_inj e)
set_option maxRecDepth 100000 in
set_option maxHeartbeats 4000000 in
theorem flat_eq (a b : Ob) (d : Nat) (w : World) : (Op.equalIn (d + 2) 81 (.agg (fl a)) (.agg (fl b))).run Try.prog w = .ok (flatB a b) w := by
  unfold fl
  simp [go_sem]
  simp only [toList_iff, flatB]
  by_cases h_kind : a.kind = b.kind
  rotate_left
  · rw [if_neg h_kind, decide_eq_false h_kind, Bool.false_and]
  rw [if_pos h_kind, decide_eq_true h_kind, Bool.true_and]
  by_cases h_uid : a.uid = b.uid
  rotate_left
  · rw [if_neg h_uid, decide_eq_false h_uid, Bool.false_and]
  rw [if_pos h_uid, decide_eq_true h_uid, Bool.true_and]
  by_cases h_version : a.version = b.version
  rotate_left
  · rw [if_neg h_version, decide_eq_false h_version, Bool.false_and]
  rw [if_pos h_version, decide_eq_true h_version, Bool.true_and]
  by_cases h_type : a.type = b.type
  rotate_left
  · rw [if_neg h_type, decide_eq_false h_type, Bool.false_and]
  rw [if_pos h_type, decide_eq_true h_type, Bool.true_and]
  by_cases h_policy : a.policy = b.policy
  rotate_left
  · rw [if_neg h_policy, decide_eq_false h_policy, Bool.false_and]
  rw [if_pos h_policy, decide_eq_true h_policy, Bool.true_and]
  by_cases h_bits : a.bits = b.bits
  rotate_left
  · rw [if_neg h_bits, decide_eq_false h_bits, Bool.false_and]
  rw [if_pos h_bits, decide_eq_true h_bits, Bool.true_and]
  by_cases h_deleting : a.deleting = b.deleting
  rotate_left
  · rw [if_neg h_deleting, decide_eq_false h_deleting, Bool.false_and]
  rw [if_pos h_deleting, decide_eq_true h_deleting, Bool.true_and]
  by_cases h_name : a.name = b.name
  rotate_left
  · rw [if_neg h_name, decide_eq_false h_name, Bool.false_and]
  rw [if_pos h_name, decide_eq_true h_name, Bool.true_and]
  by_cases h_status : a.status = b.status
  rotate_left
  · rw [if_neg h_status, decide_eq_false h_status, Bool.false_and]
  rw [if_pos h_status, decide_eq_true h_status, Bool.true_and]
  by_cases h_v4 : a.v4 = b.v4
  rotate_left
  · rw [if_neg h_v4, decide_eq_false h_v4, Bool.false_and]
  rw [if_pos h_v4, decide_eq_true h_v4, Bool.true_and]
  by_cases h_v6 : a.v6 = b.v6
  rotate_left
  · rw [if_neg h_v6, decide_eq_false h_v6, Bool.false_and]
  rw [if_pos h_v6, decide_eq_true h_v6, Bool.true_and]
  by_cases h_sel : a.sel = b.sel
  rotate_left
  · rw [if_neg h_sel, decide_eq_false h_sel, Bool.false_and]
  rw [if_pos h_sel, decide_eq_true h_sel, Bool.true_and]
  by_cases h_about : a.about = b.about
  rotate_left
  · rw [if_neg h_about, decide_eq_false h_about, Bool.false_and]
  rw [if_pos h_about, decide_eq_true h_about, Bool.true_and]
  by_cases h : a.reason = b.reason
  · rw [if_pos h, decide_eq_true h]
  · rw [if_neg h, decide_eq_false h]
theorem run_eq_flat (a b : Ob) (r : Bool) (h : flatB a b = r) (W : World) : (binOp .eql 81 (.agg (fl a)) (.agg (fl b))).run Try.prog W = .ok (.bool r) W := by
  have := flat_eq a b 9998 W
  rw [← h]
  simp only [binOp] at *
  simp [Op.equal, Op.maxDepth, this]
theorem size121 : (Try.prog.info? 81).map (·.size) = some 14 := by kernel_rfl
def z14 : Array Value := #[.int .i64 0, .int .i64 0, .int .i64 0, .int .i64 0, .int .i64 0, .int .i64 0, .bool false, .string ⟨#[]⟩, .string ⟨#[]⟩, .string ⟨#[]⟩, .string ⟨#[]⟩, .string ⟨#[]⟩, .string ⟨#[]⟩, .string ⟨#[]⟩]
theorem fl_one (o : Ob) : (fl o).all (·.oneCell') = true := by simp [fl, Value.oneCell']
set_option maxRecDepth 100000 in
set_option maxHeartbeats 4000000 in
theorem flatten_any (o : Ob) (f l c p i : Sl) (w : World) :
    Calls Try.prog 42 #[.agg (oc o f l c p i)] w fun e w' => e = .returned (.agg (fl o)) ∧ Below w.heap.size w w' := by
  obtain ⟨w1, hw1⟩ : ∃ w1, w1 = (w.alloc (.cells (oc o f l c p i) 26)).alloc (.cells #[.int .i64 0, .int .i64 0, .int .i64 0, .int .i64 0, .int .i64 0, .int .i64 0, .bool false, .string ⟨#[]⟩, .string ⟨#[]⟩, .string ⟨#[]⟩, .string ⟨#[]⟩, .string ⟨#[]⟩, .string ⟨#[]⟩, .string ⟨#[]⟩] 81) := ⟨_, rfl⟩
  have b1 : Below w.heap.size w w1 := by rw [hw1]; exact G.bthen (bel_alloc _ _) (bel_alloc _ _)
  have p1 : w1.heap[w.heap.size]? = some (.cells (oc o f l c p i) 26 (0, 0)) := by
    rw [hw1]; exact ((bel_alloc _ _).block _ (by simp)).trans (G.heap_new _ _)
  have q1 : w1.heap[w.heap.size + 1]? = some (.cells z14 81 (0, 0)) := by
    rw [hw1]
    have h2 := G.heap_new (w.alloc (.cells (oc o f l c p i) 26)) (.cells z14 81)
    rw [show (w.alloc (.cells (oc o f l c p i) 26)).heap.size = w.heap.size + 1 by simp] at h2
    exact h2
  have cl : ∀ j u, (oc o f l c p i)[j]? = some u → w1.cell? ⟨w.heap.size, j, none⟩ = some u := fun j u h => by simp [World.cell?, p1, h]
  have k0 := cl 0 (.int .i64 o.kind) rfl
  have k2 := cl 2 (.int .i64 o.uid) rfl
  have k3 := cl 3 (.int .i64 o.version) rfl
  have k9 := cl 9 (.int .i64 o.type) rfl
  have k10 := cl 10 (.int .i64 o.policy) rfl
  have k15 := cl 15 (.int .i64 o.bits) rfl
  have k4 := cl 4 (.bool o.deleting) rfl
  have k1 := cl 1 (.string o.name) rfl
  have k8 := cl 8 (.string o.status) rfl
  have k13 := cl 13 (.string o.v4) rfl
  have k14 := cl 14 (.string o.v6) rfl
  have k16 := cl 16 (.string o.sel) rfl
  have k17 := cl 17 (.string o.about) rfl
  have k18 := cl 18 (.string o.reason) rfl
  have HW := Lib.hid hw1
  have Q1 := Lib.hid q1
  have B1 := Lib.hid b1
  clear b1 p1 q1 cl hw1
  go_enter Try.func42, Try.ntmps42
  go_upto_region 1 with (fail)
  rw [← HW.out]
  go_wp2_with (refine wpList_store_row rfl 81 (.tmp 2) (.tmp 31) rfl _ (fl o) rfl rfl 81 _ Q1.out size121 rfl (fl_one o) ?_)
  refine bodyPost_ret (results_cell_row rfl _ _ (w.heap.size + 1) 81 (fl o) (0, 0) _ rfl (setRow_heap _ _ _ _ _ _ Q1.out) Try.underlying81 rfl size121) rfl ⟨rfl, ?_⟩
  exact B1.out.trans ⟨rfl, rfl, rfl, by rw [size_setRow]; exact Nat.le_refl _, fun j hj => setRow_other _ _ _ _ (by omega)⟩
end  Go.Proofs.Ytmbmnldheilffaa
