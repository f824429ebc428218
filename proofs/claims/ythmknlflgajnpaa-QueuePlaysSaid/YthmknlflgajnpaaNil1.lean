/- QueueNil: the methods on a queue that is not there. -/
import Derived.Test.YthmknlflgajnpaaQue10
namespace Go.Proofs.Ythmknlflgajnpaa
open Go.RowKit
theorem bel_alloc (w : World) (o : Obj) : Below w.heap.size w (w.alloc o) := (Below.refl _ _).alloc (Nat.le_refl _) _
set_option maxRecDepth 100000 in
theorem add_nil (r : Ref) (w : World) : Calls Try.prog 9 #[.pointer none, rv r] w fun e w' => e = .returned (.tuple #[]) ∧ Below w.heap.size w w' := by
  obtain ⟨k, nm⟩ := r
  unfold rv
  have Hb := Lib.hid (bel_alloc w (.cells #[.int .i64 k, .string nm] 30))
  go_enter Try.func9, Try.ntmps9
  go_wp2
  go_quiet (fail)
  go_wp2
  refine bodyPost_ret (results_none rfl _ _ _) rfl ⟨rfl, ?_⟩
  exact G.bdrewN Hb.out _
set_option maxRecDepth 100000 in
theorem after_nil (r : Ref) (n : Int) (w : World) : Calls Try.prog 28 #[.pointer none, rv r, .int .i64 n] w fun e w' => e = .returned (.tuple #[]) ∧ Below w.heap.size w w' := by
  obtain ⟨k, nm⟩ := r
  unfold rv
  have Hb := Lib.hid (bel_alloc w (.cells #[.int .i64 k, .string nm] 30))
  go_enter Try.func28, Try.ntmps28
  go_wp2
  refine bodyPost_ret (results_none rfl _ _ _) rfl ⟨rfl, ?_⟩
  exact Hb.out
set_option maxRecDepth 100000 in
theorem again_nil (r : Ref) (w : World) : Calls Try.prog 16 #[.pointer none, rv r] w fun e w' => e = .returned (.tuple #[]) ∧ Below w.heap.size w w' := by
  obtain ⟨k, nm⟩ := r
  unfold rv
  have Hb := Lib.hid (bel_alloc w (.cells #[.int .i64 k, .string nm] 30))
  go_enter Try.func16, Try.ntmps16
  go_wp2
  refine bodyPost_ret (results_none rfl _ _ _) rfl ⟨rfl, ?_⟩
  exact Hb.out
set_option maxRecDepth 100000 in
theorem forget_nil (r : Ref) (w : World) : Calls Try.prog 20 #[.pointer none, rv r] w fun e w' => e = .returned (.tuple #[]) ∧ Below w.heap.size w w' := by
  obtain ⟨k, nm⟩ := r
  unfold rv
  have Hb := Lib.hid (bel_alloc w (.cells #[.int .i64 k, .string nm] 30))
  go_enter Try.func20, Try.ntmps20
  go_wp2
  refine bodyPost_end (results_none rfl _ _ _) rfl ⟨rfl, ?_⟩
  exact Hb.out
set_option maxRecDepth 100000 in
theorem done_nil (r : Ref) (w : World) : Calls Try.prog 14 #[.pointer none, rv r] w fun e w' => e = .returned (.tuple #[]) ∧ Below w.heap.size w w' := by
  obtain ⟨k, nm⟩ := r
  unfold rv
  have Hb := Lib.hid (bel_alloc w (.cells #[.int .i64 k, .string nm] 30))
  go_enter Try.func14, Try.ntmps14
  go_wp2
  go_quiet (fail)
  go_wp2
  refine bodyPost_ret (results_none rfl _ _ _) rfl ⟨rfl, ?_⟩
  exact G.bdrewN Hb.out _
set_option maxRecDepth 100000 in
theorem busy_nil (r : Ref) (w : World) : Calls Try.prog 12 #[.pointer none, rv r] w fun e w' => e = .returned (.bool false) ∧ Below w.heap.size w w' := by
  obtain ⟨k, nm⟩ := r
  unfold rv
  have Hb := Lib.hid (bel_alloc w (.cells #[.int .i64 k, .string nm] 30))
  go_enter Try.func12, Try.ntmps12
  go_wp2
  go_quiet (fail)
  go_wp2
  go_ret
  refine ⟨rfl, ?_⟩
  exact G.bdrewN Hb.out _
set_option maxRecDepth 100000 in
theorem fails_nil (r : Ref) (w : World) : Calls Try.prog 21 #[.pointer none, rv r] w fun e w' => e = .returned (.int .i64 0) ∧ Below w.heap.size w w' := by
  obtain ⟨k, nm⟩ := r
  unfold rv
  have Hb := Lib.hid (bel_alloc w (.cells #[.int .i64 k, .string nm] 30))
  go_enter Try.func21, Try.ntmps21
  go_wp2
  go_ret
  refine ⟨rfl, ?_⟩
  exact Hb.out
set_option maxRecDepth 100000 in
theorem tick_nil (n : Int) (w : World) : Calls Try.prog 19 #[.pointer none, .int .i64 n] w fun e w' => e = .returned (.tuple #[]) ∧ Below w.heap.size w w' := by
  go_enter Try.func19, Try.ntmps19
  go_wp2
  refine bodyPost_ret (results_none rfl _ _ _) rfl ⟨rfl, ?_⟩
  exact Below.refl _ _
set_option maxRecDepth 100000 in
theorem len_nil  (w : World) : Calls Try.prog 18 #[.pointer none] w fun e w' => e = .returned (.int .i64 0) ∧ Below w.heap.size w w' := by
  go_enter Try.func18, Try.ntmps18
  go_wp2
  go_ret
  refine ⟨rfl, ?_⟩
  exact Below.refl _ _
set_option maxRecDepth 100000 in
theorem line_nil  (w : World) : Calls Try.prog 15 #[.pointer none] w fun e w' => e = .returned (.slice none 0 0) ∧ Below w.heap.size w w' := by
  go_enter Try.func15, Try.ntmps15
  go_wp2
  go_ret
  refine ⟨rfl, ?_⟩
  exact Below.refl _ _
set_option maxRecDepth 100000 in
theorem now_nil  (w : World) : Calls Try.prog 24 #[.pointer none] w fun e w' => e = .returned (.int .i64 0) ∧ Below w.heap.size w w' := by
  go_enter Try.func24, Try.ntmps24
  go_wp2
  go_ret
  refine ⟨rfl, ?_⟩
  exact Below.refl _ _
set_option maxRecDepth 100000 in
theorem waiting_nil  (w : World) : Calls Try.prog 17 #[.pointer none] w fun e w' => e = .returned (.int .i64 0) ∧ Below w.heap.size w w' := by
  go_enter Try.func17, Try.ntmps17
  go_wp2
  go_ret
  refine ⟨rfl, ?_⟩
  exact Below.refl _ _
set_option maxRecDepth 100000 in
theorem get_nil  (w : World) : Calls Try.prog 11 #[.pointer none] w fun e w' => e = .returned (.tuple #[.agg #[.int .i64 0, .string ⟨#[]⟩], .bool false]) ∧ Below w.heap.size w w' := by
  go_enter Try.func11, Try.ntmps11
  go_wp2
  refine bodyPost_ret (results_ct rfl _ _ w.heap.size 30 #[.int .i64 0, .string ⟨#[]⟩] (0, 0) _ rfl (G.heap_new _ _) Try.underlying30 rfl size30) rfl ⟨rfl, bel_alloc _ _⟩
end Go.Proofs.Ythmknlflgajnpaa
