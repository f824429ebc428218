/- The reference's Same of two objects. -/
import Derived.Test.YtolndeolehkjoaaEq3c
namespace Go.Proofs.Ytolndeolehkjoaa
set_option linter.unusedVariables false
set_option linter.unusedSimpArgs false
open Go.RowKit CodP
theorem two_boxes (w : World) (cs ds : Array Value) : ∃ w1, w1 = (w.alloc (.cells cs 32)).alloc (.cells ds 32) ∧ Below w.heap.size w w1 ∧ w1.heap[w.heap.size]? = some (.cells cs 32 (0, 0)) ∧ w1.heap[w.heap.size + 1]? = some (.cells ds 32 (0, 0)) := by
  refine ⟨_, rfl, G.bthen (bel_alloc _ _) (bel_alloc _ _), ((bel_alloc _ _).block _ (by simp)).trans (G.heap_new _ _), ?_⟩
  have h2 := G.heap_new (w.alloc (.cells cs 32)) (.cells ds 32)
  rw [show (w.alloc (.cells cs 32)).heap.size = w.heap.size + 1 by simp] at h2
  exact h2
theorem sameB_ne_kind (a b : Ob) (h : ¬ a.kind = b.kind) : sameB a b = false := by
  simp [sameB, flatB, h]
theorem sameB_ne_name (a b : Ob) (h : ¬ a.name = b.name) : sameB a b = false := by
  simp [sameB, flatB, h]
theorem sameB_ne_uid (a b : Ob) (h : ¬ a.uid = b.uid) : sameB a b = false := by
  simp [sameB, flatB, h]
theorem sameB_ne_version (a b : Ob) (h : ¬ a.version = b.version) : sameB a b = false := by
  simp [sameB, flatB, h]
theorem sameB_ne_deleting (a b : Ob) (h : ¬ a.deleting = b.deleting) : sameB a b = false := by
  simp [sameB, flatB, h]
theorem sameB_ne_status (a b : Ob) (h : ¬ a.status = b.status) : sameB a b = false := by
  simp [sameB, flatB, h]
theorem sameB_ne_type (a b : Ob) (h : ¬ a.type = b.type) : sameB a b = false := by
  simp [sameB, flatB, h]
theorem sameB_ne_policy (a b : Ob) (h : ¬ a.policy = b.policy) : sameB a b = false := by
  simp [sameB, flatB, h]
theorem sameB_ne_v4 (a b : Ob) (h : ¬ a.v4 = b.v4) : sameB a b = false := by
  simp [sameB, flatB, h]
theorem sameB_ne_v6 (a b : Ob) (h : ¬ a.v6 = b.v6) : sameB a b = false := by
  simp [sameB, flatB, h]
theorem sameB_ne_bits (a b : Ob) (h : ¬ a.bits = b.bits) : sameB a b = false := by
  simp [sameB, flatB, h]
theorem sameB_ne_sel (a b : Ob) (h : ¬ a.sel = b.sel) : sameB a b = false := by
  simp [sameB, flatB, h]
theorem sameB_ne_about (a b : Ob) (h : ¬ a.about = b.about) : sameB a b = false := by
  simp [sameB, flatB, h]
theorem sameB_ne_reason (a b : Ob) (h : ¬ a.reason = b.reason) : sameB a b = false := by
  simp [sameB, flatB, h]
theorem sameB_ne_fams (a b : Ob) (h : ¬ a.fams.length = b.fams.length) : sameB a b = false := by
  have h2 : ¬ a.fams = b.fams := fun e => h (by rw [e])
  simp [sameB, flatB, h2]
set_option maxRecDepth 100000 in
set_option maxHeartbeats 4000000 in
theorem same14_kind (a b : Ob) (f l c p i f' l' c' p' i' : Sl)  (h_kind : ¬ a.kind = b.kind) (w : World) :
    Calls Try.prog 18 #[.agg (oc a f l c p i), .agg (oc b f' l' c' p' i')] w fun e w' => e = .returned (.bool (sameB a b)) ∧ Below w.heap.size w w' := by
  obtain ⟨w1, hw1, b1, p1, q1⟩ := two_boxes w (oc a f l c p i) (oc b f' l' c' p' i')
  obtain ⟨x, hx⟩ : ∃ x, x = w.heap.size := ⟨_, rfl⟩
  obtain ⟨y, hy⟩ : ∃ y, y = w.heap.size + 1 := ⟨_, rfl⟩
  rw [← hx] at p1
  rw [← hy] at q1
  have x0 : w1.cell? ⟨x, 0, none⟩ = some (.int .i64 a.kind) := by simp [World.cell?, p1, oc]
  have y0 : w1.cell? ⟨y, 0, none⟩ = some (.int .i64 b.kind) := by simp [World.cell?, q1, oc]
  have e0 : (a.kind != b.kind) = true := by simpa using h_kind
  have HS := Lib.hid (sameB_ne_kind a b h_kind)
  have HW := Lib.hid hw1
  have B1 := Lib.hid b1
  clear b1 p1 q1 hw1 h_kind
  go_enter Try.func18, Try.ntmps18
  go_upto_region 1 with (fail)
  rw [← HW.out, ← hy, ← hx]
  clear hx hy
  go_wp2
  go_ret
  exact ⟨by rw [HS.out]; rfl, B1.out⟩
set_option maxRecDepth 100000 in
set_option maxHeartbeats 4000000 in
theorem same14_name (a b : Ob) (f l c p i f' l' c' p' i' : Sl) (h_kind : a.kind = b.kind) (h_name : ¬ a.name = b.name) (w : World) :
    Calls Try.prog 18 #[.agg (oc a f l c p i), .agg (oc b f' l' c' p' i')] w fun e w' => e = .returned (.bool (sameB a b)) ∧ Below w.heap.size w w' := by
  obtain ⟨w1, hw1, b1, p1, q1⟩ := two_boxes w (oc a f l c p i) (oc b f' l' c' p' i')
  obtain ⟨x, hx⟩ : ∃ x, x = w.heap.size := ⟨_, rfl⟩
  obtain ⟨y, hy⟩ : ∃ y, y = w.heap.size + 1 := ⟨_, rfl⟩
  rw [← hx] at p1
  rw [← hy] at q1
  have x0 : w1.cell? ⟨x, 0, none⟩ = some (.int .i64 b.kind) := by simp [World.cell?, p1, oc, h_kind]
  have y0 : w1.cell? ⟨y, 0, none⟩ = some (.int .i64 b.kind) := by simp [World.cell?, q1, oc]
  have x1 : w1.cell? ⟨x, 1, none⟩ = some (.string a.name) := by simp [World.cell?, p1, oc]
  have y1 : w1.cell? ⟨y, 1, none⟩ = some (.string b.name) := by simp [World.cell?, q1, oc]
  have e1 : (a.name.toList == b.name.toList) = false := str_ne h_name
  have HS := Lib.hid (sameB_ne_name a b h_name)
  have HW := Lib.hid hw1
  have B1 := Lib.hid b1
  clear b1 p1 q1 hw1 h_kind h_name
  go_enter Try.func18, Try.ntmps18
  go_upto_region 1 with (fail)
  rw [← HW.out, ← hy, ← hx]
  clear hx hy
  go_wp2
  go_ret
  exact ⟨by rw [HS.out]; rfl, B1.out⟩
set_option maxRecDepth 100000 in
set_option maxHeartbeats 4000000 in
theorem same14_uid (a b : Ob) (f l c p i f' l' c' p' i' : Sl) (h_kind : a.kind = b.kind) (h_name : a.name = b.name) (h_uid : ¬ a.uid = b.uid) (w : World) :
    Calls Try.prog 18 #[.agg (oc a f l c p i), .agg (oc b f' l' c' p' i')] w fun e w' => e = .returned (.bool (sameB a b)) ∧ Below w.heap.size w w' := by
  obtain ⟨w1, hw1, b1, p1, q1⟩ := two_boxes w (oc a f l c p i) (oc b f' l' c' p' i')
  obtain ⟨x, hx⟩ : ∃ x, x = w.heap.size := ⟨_, rfl⟩
  obtain ⟨y, hy⟩ : ∃ y, y = w.heap.size + 1 := ⟨_, rfl⟩
  rw [← hx] at p1
  rw [← hy] at q1
  have x0 : w1.cell? ⟨x, 0, none⟩ = some (.int .i64 b.kind) := by simp [World.cell?, p1, oc, h_kind]
  have y0 : w1.cell? ⟨y, 0, none⟩ = some (.int .i64 b.kind) := by simp [World.cell?, q1, oc]
  have x1 : w1.cell? ⟨x, 1, none⟩ = some (.string b.name) := by simp [World.cell?, p1, oc, h_name]
  have y1 : w1.cell? ⟨y, 1, none⟩ = some (.string b.name) := by simp [World.cell?, q1, oc]
  have x2 : w1.cell? ⟨x, 2, none⟩ = some (.int .i64 a.uid) := by simp [World.cell?, p1, oc]
  have y2 : w1.cell? ⟨y, 2, none⟩ = some (.int .i64 b.uid) := by simp [World.cell?, q1, oc]
  have e2 : (a.uid != b.uid) = true := by simpa using h_uid
  have HS := Lib.hid (sameB_ne_uid a b h_uid)
  have HW := Lib.hid hw1
  have B1 := Lib.hid b1
  clear b1 p1 q1 hw1 h_kind h_name h_uid
  go_enter Try.func18, Try.ntmps18
  go_upto_region 1 with (fail)
  rw [← HW.out, ← hy, ← hx]
  clear hx hy
  go_wp2
  go_ret
  exact ⟨by rw [HS.out]; rfl, B1.out⟩
set_option maxRecDepth 100000 in
set_option maxHeartbeats 4000000 in
theorem same14_version (a b : Ob) (f l c p i f' l' c' p' i' : Sl) (h_kind : a.kind = b.kind) (h_name : a.name = b.name) (h_uid : a.uid = b.uid) (h_version : ¬ a.version = b.version) (w : World) :
    Calls Try.prog 18 #[.agg (oc a f l c p i), .agg (oc b f' l' c' p' i')] w fun e w' => e = .returned (.bool (sameB a b)) ∧ Below w.heap.size w w' := by
  obtain ⟨w1, hw1, b1, p1, q1⟩ := two_boxes w (oc a f l c p i) (oc b f' l' c' p' i')
  obtain ⟨x, hx⟩ : ∃ x, x = w.heap.size := ⟨_, rfl⟩
  obtain ⟨y, hy⟩ : ∃ y, y = w.heap.size + 1 := ⟨_, rfl⟩
  rw [← hx] at p1
  rw [← hy] at q1
  have x0 : w1.cell? ⟨x, 0, none⟩ = some (.int .i64 b.kind) := by simp [World.cell?, p1, oc, h_kind]
  have y0 : w1.cell? ⟨y, 0, none⟩ = some (.int .i64 b.kind) := by simp [World.cell?, q1, oc]
  have x1 : w1.cell? ⟨x, 1, none⟩ = some (.string b.name) := by simp [World.cell?, p1, oc, h_name]
  have y1 : w1.cell? ⟨y, 1, none⟩ = some (.string b.name) := by simp [World.cell?, q1, oc]
  have x2 : w1.cell? ⟨x, 2, none⟩ = some (.int .i64 b.uid) := by simp [World.cell?, p1, oc, h_uid]
  have y2 : w1.cell? ⟨y, 2, none⟩ = some (.int .i64 b.uid) := by simp [World.cell?, q1, oc]
  have x3 : w1.cell? ⟨x, 3, none⟩ = some (.int .i64 a.version) := by simp [World.cell?, p1, oc]
  have y3 : w1.cell? ⟨y, 3, none⟩ = some (.int .i64 b.version) := by simp [World.cell?, q1, oc]
  have e3 : (a.version != b.version) = true := by simpa using h_version
  have HS := Lib.hid (sameB_ne_version a b h_version)
  have HW := Lib.hid hw1
  have B1 := Lib.hid b1
  clear b1 p1 q1 hw1 h_kind h_name h_uid h_version
  go_enter Try.func18, Try.ntmps18
  go_upto_region 1 with (fail)
  rw [← HW.out, ← hy, ← hx]
  clear hx hy
  go_wp2
  go_ret
  exact ⟨by rw [HS.out]; rfl, B1.out⟩
set_option maxRecDepth 100000 in
set_option maxHeartbeats 4000000 in
theorem same14_deleting (a b : Ob) (f l c p i f' l' c' p' i' : Sl) (h_kind : a.kind = b.kind) (h_name : a.name = b.name) (h_uid : a.uid = b.uid) (h_version : a.version = b.version) (h_deleting : ¬ a.deleting = b.deleting) (w : World) :
    Calls Try.prog 18 #[.agg (oc a f l c p i), .agg (oc b f' l' c' p' i')] w fun e w' => e = .returned (.bool (sameB a b)) ∧ Below w.heap.size w w' := by
  obtain ⟨w1, hw1, b1, p1, q1⟩ := two_boxes w (oc a f l c p i) (oc b f' l' c' p' i')
  obtain ⟨x, hx⟩ : ∃ x, x = w.heap.size := ⟨_, rfl⟩
  obtain ⟨y, hy⟩ : ∃ y, y = w.heap.size + 1 := ⟨_, rfl⟩
  rw [← hx] at p1
  rw [← hy] at q1
  have x0 : w1.cell? ⟨x, 0, none⟩ = some (.int .i64 b.kind) := by simp [World.cell?, p1, oc, h_kind]
  have y0 : w1.cell? ⟨y, 0, none⟩ = some (.int .i64 b.kind) := by simp [World.cell?, q1, oc]
  have x1 : w1.cell? ⟨x, 1, none⟩ = some (.string b.name) := by simp [World.cell?, p1, oc, h_name]
  have y1 : w1.cell? ⟨y, 1, none⟩ = some (.string b.name) := by simp [World.cell?, q1, oc]
  have x2 : w1.cell? ⟨x, 2, none⟩ = some (.int .i64 b.uid) := by simp [World.cell?, p1, oc, h_uid]
  have y2 : w1.cell? ⟨y, 2, none⟩ = some (.int .i64 b.uid) := by simp [World.cell?, q1, oc]
  have x3 : w1.cell? ⟨x, 3, none⟩ = some (.int .i64 b.version) := by simp [World.cell?, p1, oc, h_version]
  have y3 : w1.cell? ⟨y, 3, none⟩ = some (.int .i64 b.version) := by simp [World.cell?, q1, oc]
  have x4 : w1.cell? ⟨x, 4, none⟩ = some (.bool a.deleting) := by simp [World.cell?, p1, oc]
  have y4 : w1.cell? ⟨y, 4, none⟩ = some (.bool b.deleting) := by simp [World.cell?, q1, oc]
  have e4 := h_deleting
  have HS := Lib.hid (sameB_ne_deleting a b h_deleting)
  have HW := Lib.hid hw1
  have B1 := Lib.hid b1
  clear b1 p1 q1 hw1 h_kind h_name h_uid h_version h_deleting
  go_enter Try.func18, Try.ntmps18
  go_upto_region 1 with (fail)
  rw [← HW.out, ← hy, ← hx]
  clear hx hy
  go_wp2
  go_ret
  exact ⟨by rw [HS.out]; rfl, B1.out⟩
set_option maxRecDepth 100000 in
set_option maxHeartbeats 4000000 in
theorem same14_status (a b : Ob) (f l c p i f' l' c' p' i' : Sl) (h_kind : a.kind = b.kind) (h_name : a.name = b.name) (h_uid : a.uid = b.uid) (h_version : a.version = b.version) (h_deleting : a.deleting = b.deleting) (h_status : ¬ a.status = b.status) (w : World) :
    Calls Try.prog 18 #[.agg (oc a f l c p i), .agg (oc b f' l' c' p' i')] w fun e w' => e = .returned (.bool (sameB a b)) ∧ Below w.heap.size w w' := by
  obtain ⟨w1, hw1, b1, p1, q1⟩ := two_boxes w (oc a f l c p i) (oc b f' l' c' p' i')
  obtain ⟨x, hx⟩ : ∃ x, x = w.heap.size := ⟨_, rfl⟩
  obtain ⟨y, hy⟩ : ∃ y, y = w.heap.size + 1 := ⟨_, rfl⟩
  rw [← hx] at p1
  rw [← hy] at q1
  have x0 : w1.cell? ⟨x, 0, none⟩ = some (.int .i64 b.kind) := by simp [World.cell?, p1, oc, h_kind]
  have y0 : w1.cell? ⟨y, 0, none⟩ = some (.int .i64 b.kind) := by simp [World.cell?, q1, oc]
  have x1 : w1.cell? ⟨x, 1, none⟩ = some (.string b.name) := by simp [World.cell?, p1, oc, h_name]
  have y1 : w1.cell? ⟨y, 1, none⟩ = some (.string b.name) := by simp [World.cell?, q1, oc]
  have x2 : w1.cell? ⟨x, 2, none⟩ = some (.int .i64 b.uid) := by simp [World.cell?, p1, oc, h_uid]
  have y2 : w1.cell? ⟨y, 2, none⟩ = some (.int .i64 b.uid) := by simp [World.cell?, q1, oc]
  have x3 : w1.cell? ⟨x, 3, none⟩ = some (.int .i64 b.version) := by simp [World.cell?, p1, oc, h_version]
  have y3 : w1.cell? ⟨y, 3, none⟩ = some (.int .i64 b.version) := by simp [World.cell?, q1, oc]
  have x4 : w1.cell? ⟨x, 4, none⟩ = some (.bool b.deleting) := by simp [World.cell?, p1, oc, h_deleting]
  have y4 : w1.cell? ⟨y, 4, none⟩ = some (.bool b.deleting) := by simp [World.cell?, q1, oc]
  have x8 : w1.cell? ⟨x, 8, none⟩ = some (.string a.status) := by simp [World.cell?, p1, oc]
  have y8 : w1.cell? ⟨y, 8, none⟩ = some (.string b.status) := by simp [World.cell?, q1, oc]
  have e5 : (a.status.toList == b.status.toList) = false := str_ne h_status
  have HS := Lib.hid (sameB_ne_status a b h_status)
  have HW := Lib.hid hw1
  have B1 := Lib.hid b1
  clear b1 p1 q1 hw1 h_kind h_name h_uid h_version h_deleting h_status
  go_enter Try.func18, Try.ntmps18
  go_upto_region 1 with (fail)
  rw [← HW.out, ← hy, ← hx]
  clear hx hy
  go_wp2
  go_ret
  exact ⟨by rw [HS.out]; rfl, B1.out⟩
set_option maxRecDepth 100000 in
set_option maxHeartbeats 4000000 in
theorem same14_type (a b : Ob) (f l c p i f' l' c' p' i' : Sl) (h_kind : a.kind = b.kind) (h_name : a.name = b.name) (h_uid : a.uid = b.uid) (h_version : a.version = b.version) (h_deleting : a.deleting = b.deleting) (h_status : a.status = b.status) (h_type : ¬ a.type = b.type) (w : World) :
    Calls Try.prog 18 #[.agg (oc a f l c p i), .agg (oc b f' l' c' p' i')] w fun e w' => e = .returned (.bool (sameB a b)) ∧ Below w.heap.size w w' := by
  obtain ⟨w1, hw1, b1, p1, q1⟩ := two_boxes w (oc a f l c p i) (oc b f' l' c' p' i')
  obtain ⟨x, hx⟩ : ∃ x, x = w.heap.size := ⟨_, rfl⟩
  obtain ⟨y, hy⟩ : ∃ y, y = w.heap.size + 1 := ⟨_, rfl⟩
  rw [← hx] at p1
  rw [← hy] at q1
  have x0 : w1.cell? ⟨x, 0, none⟩ = some (.int .i64 b.kind) := by simp [World.cell?, p1, oc, h_kind]
  have y0 : w1.cell? ⟨y, 0, none⟩ = some (.int .i64 b.kind) := by simp [World.cell?, q1, oc]
  have x1 : w1.cell? ⟨x, 1, none⟩ = some (.string b.name) := by simp [World.cell?, p1, oc, h_name]
  have y1 : w1.cell? ⟨y, 1, none⟩ = some (.string b.name) := by simp [World.cell?, q1, oc]
  have x2 : w1.cell? ⟨x, 2, none⟩ = some (.int .i64 b.uid) := by simp [World.cell?, p1, oc, h_uid]
  have y2 : w1.cell? ⟨y, 2, none⟩ = some (.int .i64 b.uid) := by simp [World.cell?, q1, oc]
  have x3 : w1.cell? ⟨x, 3, none⟩ = some (.int .i64 b.version) := by simp [World.cell?, p1, oc, h_version]
  have y3 : w1.cell? ⟨y, 3, none⟩ = some (.int .i64 b.version) := by simp [World.cell?, q1, oc]
  have x4 : w1.cell? ⟨x, 4, none⟩ = some (.bool b.deleting) := by simp [World.cell?, p1, oc, h_deleting]
  have y4 : w1.cell? ⟨y, 4, none⟩ = some (.bool b.deleting) := by simp [World.cell?, q1, oc]
  have x8 : w1.cell? ⟨x, 8, none⟩ = some (.string b.status) := by simp [World.cell?, p1, oc, h_status]
  have y8 : w1.cell? ⟨y, 8, none⟩ = some (.string b.status) := by simp [World.cell?, q1, oc]
  have x9 : w1.cell? ⟨x, 9, none⟩ = some (.int .i64 a.type) := by simp [World.cell?, p1, oc]
  have y9 : w1.cell? ⟨y, 9, none⟩ = some (.int .i64 b.type) := by simp [World.cell?, q1, oc]
  have e6 : (a.type != b.type) = true := by simpa using h_type
  have HS := Lib.hid (sameB_ne_type a b h_type)
  have HW := Lib.hid hw1
  have B1 := Lib.hid b1
  clear b1 p1 q1 hw1 h_kind h_name h_uid h_version h_deleting h_status h_type
  go_enter Try.func18, Try.ntmps18
  go_upto_region 1 with (fail)
  rw [← HW.out, ← hy, ← hx]
  clear hx hy
  go_wp2
  go_ret
  exact ⟨by rw [HS.out]; rfl, B1.out⟩
set_option maxRecDepth 100000 in
set_option maxHeartbeats 4000000 in
theorem same14_policy (a b : Ob) (f l c p i f' l' c' p' i' : Sl) (h_kind : a.kind = b.kind) (h_name : a.name = b.name) (h_uid : a.uid = b.uid) (h_version : a.version = b.version) (h_deleting : a.deleting = b.deleting) (h_status : a.status = b.status) (h_type : a.type = b.type) (h_policy : ¬ a.policy = b.policy) (w : World) :
    Calls Try.prog 18 #[.agg (oc a f l c p i), .agg (oc b f' l' c' p' i')] w fun e w' => e = .returned (.bool (sameB a b)) ∧ Below w.heap.size w w' := by
  obtain ⟨w1, hw1, b1, p1, q1⟩ := two_boxes w (oc a f l c p i) (oc b f' l' c' p' i')
  obtain ⟨x, hx⟩ : ∃ x, x = w.heap.size := ⟨_, rfl⟩
  obtain ⟨y, hy⟩ : ∃ y, y = w.heap.size + 1 := ⟨_, rfl⟩
  rw [← hx] at p1
  rw [← hy] at q1
  have x0 : w1.cell? ⟨x, 0, none⟩ = some (.int .i64 b.kind) := by simp [World.cell?, p1, oc, h_kind]
  have y0 : w1.cell? ⟨y, 0, none⟩ = some (.int .i64 b.kind) := by simp [World.cell?, q1, oc]
  have x1 : w1.cell? ⟨x, 1, none⟩ = some (.string b.name) := by simp [World.cell?, p1, oc, h_name]
  have y1 : w1.cell? ⟨y, 1, none⟩ = some (.string b.name) := by simp [World.cell?, q1, oc]
  have x2 : w1.cell? ⟨x, 2, none⟩ = some (.int .i64 b.uid) := by simp [World.cell?, p1, oc, h_uid]
  have y2 : w1.cell? ⟨y, 2, none⟩ = some (.int .i64 b.uid) := by simp [World.cell?, q1, oc]
  have x3 : w1.cell? ⟨x, 3, none⟩ = some (.int .i64 b.version) := by simp [World.cell?, p1, oc, h_version]
  have y3 : w1.cell? ⟨y, 3, none⟩ = some (.int .i64 b.version) := by simp [World.cell?, q1, oc]
  have x4 : w1.cell? ⟨x, 4, none⟩ = some (.bool b.deleting) := by simp [World.cell?, p1, oc, h_deleting]
  have y4 : w1.cell? ⟨y, 4, none⟩ = some (.bool b.deleting) := by simp [World.cell?, q1, oc]
  have x8 : w1.cell? ⟨x, 8, none⟩ = some (.string b.status) := by simp [World.cell?, p1, oc, h_status]
  have y8 : w1.cell? ⟨y, 8, none⟩ = some (.string b.status) := by simp [World.cell?, q1, oc]
  have x9 : w1.cell? ⟨x, 9, none⟩ = some (.int .i64 b.type) := by simp [World.cell?, p1, oc, h_type]
  have y9 : w1.cell? ⟨y, 9, none⟩ = some (.int .i64 b.type) := by simp [World.cell?, q1, oc]
  have x10 : w1.cell? ⟨x, 10, none⟩ = some (.int .i64 a.policy) := by simp [World.cell?, p1, oc]
  have y10 : w1.cell? ⟨y, 10, none⟩ = some (.int .i64 b.policy) := by simp [World.cell?, q1, oc]
  have e7 : (a.policy != b.policy) = true := by simpa using h_policy
  have HS := Lib.hid (sameB_ne_policy a b h_policy)
  have HW := Lib.hid hw1
  have B1 := Lib.hid b1
  clear b1 p1 q1 hw1 h_kind h_name h_uid h_version h_deleting h_status h_type h_policy
  go_enter Try.func18, Try.ntmps18
  go_upto_region 1 with (fail)
  rw [← HW.out, ← hy, ← hx]
  clear hx hy
  go_wp2
  go_ret
  exact ⟨by rw [HS.out]; rfl, B1.out⟩
set_option maxRecDepth 100000 in
set_option maxHeartbeats 4000000 in
theorem same14_v4 (a b : Ob) (f l c p i f' l' c' p' i' : Sl) (h_kind : a.kind = b.kind) (h_name : a.name = b.name) (h_uid : a.uid = b.uid) (h_version : a.version = b.version) (h_deleting : a.deleting = b.deleting) (h_status : a.status = b.status) (h_type : a.type = b.type) (h_policy : a.policy = b.policy) (h_v4 : ¬ a.v4 = b.v4) (w : World) :
    Calls Try.prog 18 #[.agg (oc a f l c p i), .agg (oc b f' l' c' p' i')] w fun e w' => e = .returned (.bool (sameB a b)) ∧ Below w.heap.size w w' := by
  obtain ⟨w1, hw1, b1, p1, q1⟩ := two_boxes w (oc a f l c p i) (oc b f' l' c' p' i')
  obtain ⟨x, hx⟩ : ∃ x, x = w.heap.size := ⟨_, rfl⟩
  obtain ⟨y, hy⟩ : ∃ y, y = w.heap.size + 1 := ⟨_, rfl⟩
  rw [← hx] at p1
  rw [← hy] at q1
  have x0 : w1.cell? ⟨x, 0, none⟩ = some (.int .i64 b.kind) := by simp [World.cell?, p1, oc, h_kind]
  have y0 : w1.cell? ⟨y, 0, none⟩ = some (.int .i64 b.kind) := by simp [World.cell?, q1, oc]
  have x1 : w1.cell? ⟨x, 1, none⟩ = some (.string b.name) := by simp [World.cell?, p1, oc, h_name]
  have y1 : w1.cell? ⟨y, 1, none⟩ = some (.string b.name) := by simp [World.cell?, q1, oc]
  have x2 : w1.cell? ⟨x, 2, none⟩ = some (.int .i64 b.uid) := by simp [World.cell?, p1, oc, h_uid]
  have y2 : w1.cell? ⟨y, 2, none⟩ = some (.int .i64 b.uid) := by simp [World.cell?, q1, oc]
  have x3 : w1.cell? ⟨x, 3, none⟩ = some (.int .i64 b.version) := by simp [World.cell?, p1, oc, h_version]
  have y3 : w1.cell? ⟨y, 3, none⟩ = some (.int .i64 b.version) := by simp [World.cell?, q1, oc]
  have x4 : w1.cell? ⟨x, 4, none⟩ = some (.bool b.deleting) := by simp [World.cell?, p1, oc, h_deleting]
  have y4 : w1.cell? ⟨y, 4, none⟩ = some (.bool b.deleting) := by simp [World.cell?, q1, oc]
  have x8 : w1.cell? ⟨x, 8, none⟩ = some (.string b.status) := by simp [World.cell?, p1, oc, h_status]
  have y8 : w1.cell? ⟨y, 8, none⟩ = some (.string b.status) := by simp [World.cell?, q1, oc]
  have x9 : w1.cell? ⟨x, 9, none⟩ = some (.int .i64 b.type) := by simp [World.cell?, p1, oc, h_type]
  have y9 : w1.cell? ⟨y, 9, none⟩ = some (.int .i64 b.type) := by simp [World.cell?, q1, oc]
  have x10 : w1.cell? ⟨x, 10, none⟩ = some (.int .i64 b.policy) := by simp [World.cell?, p1, oc, h_policy]
  have y10 : w1.cell? ⟨y, 10, none⟩ = some (.int .i64 b.policy) := by simp [World.cell?, q1, oc]
  have x13 : w1.cell? ⟨x, 13, none⟩ = some (.string a.v4) := by simp [World.cell?, p1, oc]
  have y13 : w1.cell? ⟨y, 13, none⟩ = some (.string b.v4) := by simp [World.cell?, q1, oc]
  have e8 : (a.v4.toList == b.v4.toList) = false := str_ne h_v4
  have HS := Lib.hid (sameB_ne_v4 a b h_v4)
  have HW := Lib.hid hw1
  have B1 := Lib.hid b1
  clear b1 p1 q1 hw1 h_kind h_name h_uid h_version h_deleting h_status h_type h_policy h_v4
  go_enter Try.func18, Try.ntmps18
  go_upto_region 1 with (fail)
  rw [← HW.out, ← hy, ← hx]
  clear hx hy
  go_wp2
  go_ret
  exact ⟨by rw [HS.out]; rfl, B1.out⟩
set_option maxRecDepth 100000 in
set_option maxHeartbeats 4000000 in
theorem same14_v6 (a b : Ob) (f l c p i f' l' c' p' i' : Sl) (h_kind : a.kind = b.kind) (h_name : a.name = b.name) (h_uid : a.uid = b.uid) (h_version : a.version = b.version) (h_deleting : a.deleting = b.deleting) (h_status : a.status = b.status) (h_type : a.type = b.type) (h_policy : a.policy = b.policy) (h_v4 : a.v4 = b.v4) (h_v6 : ¬ a.v6 = b.v6) (w : World) :
    Calls Try.prog 18 #[.agg (oc a f l c p i), .agg (oc b f' l' c' p' i')] w fun e w' => e = .returned (.bool (sameB a b)) ∧ Below w.heap.size w w' := by
  obtain ⟨w1, hw1, b1, p1, q1⟩ := two_boxes w (oc a f l c p i) (oc b f' l' c' p' i')
  obtain ⟨x, hx⟩ : ∃ x, x = w.heap.size := ⟨_, rfl⟩
  obtain ⟨y, hy⟩ : ∃ y, y = w.heap.size + 1 := ⟨_, rfl⟩
  rw [← hx] at p1
  rw [← hy] at q1
  have x0 : w1.cell? ⟨x, 0, none⟩ = some (.int .i64 b.kind) := by simp [World.cell?, p1, oc, h_kind]
  have y0 : w1.cell? ⟨y, 0, none⟩ = some (.int .i64 b.kind) := by simp [World.cell?, q1, oc]
  have x1 : w1.cell? ⟨x, 1, none⟩ = some (.string b.name) := by simp [World.cell?, p1, oc, h_name]
  have y1 : w1.cell? ⟨y, 1, none⟩ = some (.string b.name) := by simp [World.cell?, q1, oc]
  have x2 : w1.cell? ⟨x, 2, none⟩ = some (.int .i64 b.uid) := by simp [World.cell?, p1, oc, h_uid]
  have y2 : w1.cell? ⟨y, 2, none⟩ = some (.int .i64 b.uid) := by simp [World.cell?, q1, oc]
  have x3 : w1.cell? ⟨x, 3, none⟩ = some (.int .i64 b.version) := by simp [World.cell?, p1, oc, h_version]
  have y3 : w1.cell? ⟨y, 3, none⟩ = some (.int .i64 b.version) := by simp [World.cell?, q1, oc]
  have x4 : w1.cell? ⟨x, 4, none⟩ = some (.bool b.deleting) := by simp [World.cell?, p1, oc, h_deleting]
  have y4 : w1.cell? ⟨y, 4, none⟩ = some (.bool b.deleting) := by simp [World.cell?, q1, oc]
  have x8 : w1.cell? ⟨x, 8, none⟩ = some (.string b.status) := by simp [World.cell?, p1, oc, h_status]
  have y8 : w1.cell? ⟨y, 8, none⟩ = some (.string b.status) := by simp [World.cell?, q1, oc]
  have x9 : w1.cell? ⟨x, 9, none⟩ = some (.int .i64 b.type) := by simp [World.cell?, p1, oc, h_type]
  have y9 : w1.cell? ⟨y, 9, none⟩ = some (.int .i64 b.type) := by simp [World.cell?, q1, oc]
  have x10 : w1.cell? ⟨x, 10, none⟩ = some (.int .i64 b.policy) := by simp [World.cell?, p1, oc, h_policy]
  have y10 : w1.cell? ⟨y, 10, none⟩ = some (.int .i64 b.policy) := by simp [World.cell?, q1, oc]
  have x13 : w1.cell? ⟨x, 13, none⟩ = some (.string b.v4) := by simp [World.cell?, p1, oc, h_v4]
  have y13 : w1.cell? ⟨y, 13, none⟩ = some (.string b.v4) := by simp [World.cell?, q1, oc]
  have x14 : w1.cell? ⟨x, 14, none⟩ = some (.string a.v6) := by simp [World.cell?, p1, oc]
  have y14 : w1.cell? ⟨y, 14, none⟩ = some (.string b.v6) := by simp [World.cell?, q1, oc]
  have e9 : (a.v6.toList == b.v6.toList) = false := str_ne h_v6
  have HS := Lib.hid (sameB_ne_v6 a b h_v6)
  have HW := Lib.hid hw1
  have B1 := Lib.hid b1
  clear b1 p1 q1 hw1 h_kind h_name h_uid h_version h_deleting h_status h_type h_policy h_v4 h_v6
  go_enter Try.func18, Try.ntmps18
  go_upto_region 1 with (fail)
  rw [← HW.out, ← hy, ← hx]
  clear hx hy
  go_wp2
  go_ret
  exact ⟨by rw [HS.out]; rfl, B1.out⟩
set_option maxRecDepth 100000 in
set_option maxHeartbeats 4000000 in
theorem same14_bits (a b : Ob) (f l c p i f' l' c' p' i' : Sl) (h_kind : a.kind = b.kind) (h_name : a.name = b.name) (h_uid : a.uid = b.uid) (h_version : a.version = b.version) (h_deleting : a.deleting = b.deleting) (h_status : a.status = b.status) (h_type : a.type = b.type) (h_policy : a.policy = b.policy) (h_v4 : a.v4 = b.v4) (h_v6 : a.v6 = b.v6) (h_bits : ¬ a.bits = b.bits) (w : World) :
    Calls Try.prog 18 #[.agg (oc a f l c p i), .agg (oc b f' l' c' p' i')] w fun e w' => e = .returned (.bool (sameB a b)) ∧ Below w.heap.size w w' := by
  obtain ⟨w1, hw1, b1, p1, q1⟩ := two_boxes w (oc a f l c p i) (oc b f' l' c' p' i')
  obtain ⟨x, hx⟩ : ∃ x, x = w.heap.size := ⟨_, rfl⟩
  obtain ⟨y, hy⟩ : ∃ y, y = w.heap.size + 1 := ⟨_, rfl⟩
  rw [← hx] at p1
  rw [← hy] at q1
  have x0 : w1.cell? ⟨x, 0, none⟩ = some (.int .i64 b.kind) := by simp [World.cell?, p1, oc, h_kind]
  have y0 : w1.cell? ⟨y, 0, none⟩ = some (.int .i64 b.kind) := by simp [World.cell?, q1, oc]
  have x1 : w1.cell? ⟨x, 1, none⟩ = some (.string b.name) := by simp [World.cell?, p1, oc, h_name]
  have y1 : w1.cell? ⟨y, 1, none⟩ = some (.string b.name) := by simp [World.cell?, q1, oc]
  have x2 : w1.cell? ⟨x, 2, none⟩ = some (.int .i64 b.uid) := by simp [World.cell?, p1, oc, h_uid]
  have y2 : w1.cell? ⟨y, 2, none⟩ = some (.int .i64 b.uid) := by simp [World.cell?, q1, oc]
  have x3 : w1.cell? ⟨x, 3, none⟩ = some (.int .i64 b.version) := by simp [World.cell?, p1, oc, h_version]
  have y3 : w1.cell? ⟨y, 3, none⟩ = some (.int .i64 b.version) := by simp [World.cell?, q1, oc]
  have x4 : w1.cell? ⟨x, 4, none⟩ = some (.bool b.deleting) := by simp [World.cell?, p1, oc, h_deleting]
  have y4 : w1.cell? ⟨y, 4, none⟩ = some (.bool b.deleting) := by simp [World.cell?, q1, oc]
  have x8 : w1.cell? ⟨x, 8, none⟩ = some (.string b.status) := by simp [World.cell?, p1, oc, h_status]
  have y8 : w1.cell? ⟨y, 8, none⟩ = some (.string b.status) := by simp [World.cell?, q1, oc]
  have x9 : w1.cell? ⟨x, 9, none⟩ = some (.int .i64 b.type) := by simp [World.cell?, p1, oc, h_type]
  have y9 : w1.cell? ⟨y, 9, none⟩ = some (.int .i64 b.type) := by simp [World.cell?, q1, oc]
  have x10 : w1.cell? ⟨x, 10, none⟩ = some (.int .i64 b.policy) := by simp [World.cell?, p1, oc, h_policy]
  have y10 : w1.cell? ⟨y, 10, none⟩ = some (.int .i64 b.policy) := by simp [World.cell?, q1, oc]
  have x13 : w1.cell? ⟨x, 13, none⟩ = some (.string b.v4) := by simp [World.cell?, p1, oc, h_v4]
  have y13 : w1.cell? ⟨y, 13, none⟩ = some (.string b.v4) := by simp [World.cell?, q1, oc]
  have x14 : w1.cell? ⟨x, 14, none⟩ = some (.string b.v6) := by simp [World.cell?, p1, oc, h_v6]
  have y14 : w1.cell? ⟨y, 14, none⟩ = some (.string b.v6) := by simp [World.cell?, q1, oc]
  have x15 : w1.cell? ⟨x, 15, none⟩ = some (.int .i64 a.bits) := by simp [World.cell?, p1, oc]
  have y15 : w1.cell? ⟨y, 15, none⟩ = some (.int .i64 b.bits) := by simp [World.cell?, q1, oc]
  have e10 : (a.bits != b.bits) = true := by simpa using h_bits
  have HS := Lib.hid (sameB_ne_bits a b h_bits)
  have HW := Lib.hid hw1
  have B1 := Lib.hid b1
  clear b1 p1 q1 hw1 h_kind h_name h_uid h_version h_deleting h_status h_type h_policy h_v4 h_v6 h_bits
  go_enter Try.func18, Try.ntmps18
  go_upto_region 1 with (fail)
  rw [← HW.out, ← hy, ← hx]
  clear hx hy
  go_wp2
  go_ret
  exact ⟨by rw [HS.out]; rfl, B1.out⟩
set_option maxRecDepth 100000 in
set_option maxHeartbeats 4000000 in
theorem same14_sel (a b : Ob) (f l c p i f' l' c' p' i' : Sl) (h_kind : a.kind = b.kind) (h_name : a.name = b.name) (h_uid : a.uid = b.uid) (h_version : a.version = b.version) (h_deleting : a.deleting = b.deleting) (h_status : a.status = b.status) (h_type : a.type = b.type) (h_policy : a.policy = b.policy) (h_v4 : a.v4 = b.v4) (h_v6 : a.v6 = b.v6) (h_bits : a.bits = b.bits) (h_sel : ¬ a.sel = b.sel) (w : World) :
    Calls Try.prog 18 #[.agg (oc a f l c p i), .agg (oc b f' l' c' p' i')] w fun e w' => e = .returned (.bool (sameB a b)) ∧ Below w.heap.size w w' := by
  obtain ⟨w1, hw1, b1, p1, q1⟩ := two_boxes w (oc a f l c p i) (oc b f' l' c' p' i')
  obtain ⟨x, hx⟩ : ∃ x, x = w.heap.size := ⟨_, rfl⟩
  obtain ⟨y, hy⟩ : ∃ y, y = w.heap.size + 1 := ⟨_, rfl⟩
  rw [← hx] at p1
  rw [← hy] at q1
  have x0 : w1.cell? ⟨x, 0, none⟩ = some (.int .i64 b.kind) := by simp [World.cell?, p1, oc, h_kind]
  have y0 : w1.cell? ⟨y, 0, none⟩ = some (.int .i64 b.kind) := by simp [World.cell?, q1, oc]
  have x1 : w1.cell? ⟨x, 1, none⟩ = some (.string b.name) := by simp [World.cell?, p1, oc, h_name]
  have y1 : w1.cell? ⟨y, 1, none⟩ = some (.string b.name) := by simp [World.cell?, q1, oc]
  have x2 : w1.cell? ⟨x, 2, none⟩ = some (.int .i64 b.uid) := by simp [World.cell?, p1, oc, h_uid]
  have y2 : w1.cell? ⟨y, 2, none⟩ = some (.int .i64 b.uid) := by simp [World.cell?, q1, oc]
  have x3 : w1.cell? ⟨x, 3, none⟩ = some (.int .i64 b.version) := by simp [World.cell?, p1, oc, h_version]
  have y3 : w1.cell? ⟨y, 3, none⟩ = some (.int .i64 b.version) := by simp [World.cell?, q1, oc]
  have x4 : w1.cell? ⟨x, 4, none⟩ = some (.bool b.deleting) := by simp [World.cell?, p1, oc, h_deleting]
  have y4 : w1.cell? ⟨y, 4, none⟩ = some (.bool b.deleting) := by simp [World.cell?, q1, oc]
  have x8 : w1.cell? ⟨x, 8, none⟩ = some (.string b.status) := by simp [World.cell?, p1, oc, h_status]
  have y8 : w1.cell? ⟨y, 8, none⟩ = some (.string b.status) := by simp [World.cell?, q1, oc]
  have x9 : w1.cell? ⟨x, 9, none⟩ = some (.int .i64 b.type) := by simp [World.cell?, p1, oc, h_type]
  have y9 : w1.cell? ⟨y, 9, none⟩ = some (.int .i64 b.type) := by simp [World.cell?, q1, oc]
  have x10 : w1.cell? ⟨x, 10, none⟩ = some (.int .i64 b.policy) := by simp [World.cell?, p1, oc, h_policy]
  have y10 : w1.cell? ⟨y, 10, none⟩ = some (.int .i64 b.policy) := by simp [World.cell?, q1, oc]
  have x13 : w1.cell? ⟨x, 13, none⟩ = some (.string b.v4) := by simp [World.cell?, p1, oc, h_v4]
  have y13 : w1.cell? ⟨y, 13, none⟩ = some (.string b.v4) := by simp [World.cell?, q1, oc]
  have x14 : w1.cell? ⟨x, 14, none⟩ = some (.string b.v6) := by simp [World.cell?, p1, oc, h_v6]
  have y14 : w1.cell? ⟨y, 14, none⟩ = some (.string b.v6) := by simp [World.cell?, q1, oc]
  have x15 : w1.cell? ⟨x, 15, none⟩ = some (.int .i64 b.bits) := by simp [World.cell?, p1, oc, h_bits]
  have y15 : w1.cell? ⟨y, 15, none⟩ = some (.int .i64 b.bits) := by simp [World.cell?, q1, oc]
  have x16 : w1.cell? ⟨x, 16, none⟩ = some (.string a.sel) := by simp [World.cell?, p1, oc]
  have y16 : w1.cell? ⟨y, 16, none⟩ = some (.string b.sel) := by simp [World.cell?, q1, oc]
  have e11 : (a.sel.toList == b.sel.toList) = false := str_ne h_sel
  have HS := Lib.hid (sameB_ne_sel a b h_sel)
  have HW := Lib.hid hw1
  have B1 := Lib.hid b1
  clear b1 p1 q1 hw1 h_kind h_name h_uid h_version h_deleting h_status h_type h_policy h_v4 h_v6 h_bits h_sel
  go_enter Try.func18, Try.ntmps18
  go_upto_region 1 with (fail)
  rw [← HW.out, ← hy, ← hx]
  clear hx hy
  go_wp2
  go_ret
  exact ⟨by rw [HS.out]; rfl, B1.out⟩
set_option maxRecDepth 100000 in
set_option maxHeartbeats 4000000 in
theorem same14_about (a b : Ob) (f l c p i f' l' c' p' i' : Sl) (h_kind : a.kind = b.kind) (h_name : a.name = b.name) (h_uid : a.uid = b.uid) (h_version : a.version = b.version) (h_deleting : a.deleting = b.deleting) (h_status : a.status = b.status) (h_type : a.type = b.type) (h_policy : a.policy = b.policy) (h_v4 : a.v4 = b.v4) (h_v6 : a.v6 = b.v6) (h_bits : a.bits = b.bits) (h_sel : a.sel = b.sel) (h_about : ¬ a.about = b.about) (w : World) :
    Calls Try.prog 18 #[.agg (oc a f l c p i), .agg (oc b f' l' c' p' i')] w fun e w' => e = .returned (.bool (sameB a b)) ∧ Below w.heap.size w w' := by
  obtain ⟨w1, hw1, b1, p1, q1⟩ := two_boxes w (oc a f l c p i) (oc b f' l' c' p' i')
  obtain ⟨x, hx⟩ : ∃ x, x = w.heap.size := ⟨_, rfl⟩
  obtain ⟨y, hy⟩ : ∃ y, y = w.heap.size + 1 := ⟨_, rfl⟩
  rw [← hx] at p1
  rw [← hy] at q1
  have x0 : w1.cell? ⟨x, 0, none⟩ = some (.int .i64 b.kind) := by simp [World.cell?, p1, oc, h_kind]
  have y0 : w1.cell? ⟨y, 0, none⟩ = some (.int .i64 b.kind) := by simp [World.cell?, q1, oc]
  have x1 : w1.cell? ⟨x, 1, none⟩ = some (.string b.name) := by simp [World.cell?, p1, oc, h_name]
  have y1 : w1.cell? ⟨y, 1, none⟩ = some (.string b.name) := by simp [World.cell?, q1, oc]
  have x2 : w1.cell? ⟨x, 2, none⟩ = some (.int .i64 b.uid) := by simp [World.cell?, p1, oc, h_uid]
  have y2 : w1.cell? ⟨y, 2, none⟩ = some (.int .i64 b.uid) := by simp [World.cell?, q1, oc]
  have x3 : w1.cell? ⟨x, 3, none⟩ = some (.int .i64 b.version) := by simp [World.cell?, p1, oc, h_version]
  have y3 : w1.cell? ⟨y, 3, none⟩ = some (.int .i64 b.version) := by simp [World.cell?, q1, oc]
  have x4 : w1.cell? ⟨x, 4, none⟩ = some (.bool b.deleting) := by simp [World.cell?, p1, oc, h_deleting]
  have y4 : w1.cell? ⟨y, 4, none⟩ = some (.bool b.deleting) := by simp [World.cell?, q1, oc]
  have x8 : w1.cell? ⟨x, 8, none⟩ = some (.string b.status) := by simp [World.cell?, p1, oc, h_status]
  have y8 : w1.cell? ⟨y, 8, none⟩ = some (.string b.status) := by simp [World.cell?, q1, oc]
  have x9 : w1.cell? ⟨x, 9, none⟩ = some (.int .i64 b.type) := by simp [World.cell?, p1, oc, h_type]
  have y9 : w1.cell? ⟨y, 9, none⟩ = some (.int .i64 b.type) := by simp [World.cell?, q1, oc]
  have x10 : w1.cell? ⟨x, 10, none⟩ = some (.int .i64 b.policy) := by simp [World.cell?, p1, oc, h_policy]
  have y10 : w1.cell? ⟨y, 10, none⟩ = some (.int .i64 b.policy) := by simp [World.cell?, q1, oc]
  have x13 : w1.cell? ⟨x, 13, none⟩ = some (.string b.v4) := by simp [World.cell?, p1, oc, h_v4]
  have y13 : w1.cell? ⟨y, 13, none⟩ = some (.string b.v4) := by simp [World.cell?, q1, oc]
  have x14 : w1.cell? ⟨x, 14, none⟩ = some (.string b.v6) := by simp [World.cell?, p1, oc, h_v6]
  have y14 : w1.cell? ⟨y, 14, none⟩ = some (.string b.v6) := by simp [World.cell?, q1, oc]
  have x15 : w1.cell? ⟨x, 15, none⟩ = some (.int .i64 b.bits) := by simp [World.cell?, p1, oc, h_bits]
  have y15 : w1.cell? ⟨y, 15, none⟩ = some (.int .i64 b.bits) := by simp [World.cell?, q1, oc]
  have x16 : w1.cell? ⟨x, 16, none⟩ = some (.string b.sel) := by simp [World.cell?, p1, oc, h_sel]
  have y16 : w1.cell? ⟨y, 16, none⟩ = some (.string b.sel) := by simp [World.cell?, q1, oc]
  have x17 : w1.cell? ⟨x, 17, none⟩ = some (.string a.about) := by simp [World.cell?, p1, oc]
  have y17 : w1.cell? ⟨y, 17, none⟩ = some (.string b.about) := by simp [World.cell?, q1, oc]
  have e12 : (a.about.toList == b.about.toList) = false := str_ne h_about
  have HS := Lib.hid (sameB_ne_about a b h_about)
  have HW := Lib.hid hw1
  have B1 := Lib.hid b1
  clear b1 p1 q1 hw1 h_kind h_name h_uid h_version h_deleting h_status h_type h_policy h_v4 h_v6 h_bits h_sel h_about
  go_enter Try.func18, Try.ntmps18
  go_upto_region 1 with (fail)
  rw [← HW.out, ← hy, ← hx]
  clear hx hy
  go_wp2
  go_ret
  exact ⟨by rw [HS.out]; rfl, B1.out⟩
set_option maxRecDepth 100000 in
set_option maxHeartbeats 4000000 in
theorem same14_reason (a b : Ob) (f l c p i f' l' c' p' i' : Sl) (h_kind : a.kind = b.kind) (h_name : a.name = b.name) (h_uid : a.uid = b.uid) (h_version : a.version = b.version) (h_deleting : a.deleting = b.deleting) (h_status : a.status = b.status) (h_type : a.type = b.type) (h_policy : a.policy = b.policy) (h_v4 : a.v4 = b.v4) (h_v6 : a.v6 = b.v6) (h_bits : a.bits = b.bits) (h_sel : a.sel = b.sel) (h_about : a.about = b.about) (h_reason : ¬ a.reason = b.reason) (w : World) :
    Calls Try.prog 18 #[.agg (oc a f l c p i), .agg (oc b f' l' c' p' i')] w fun e w' => e = .returned (.bool (sameB a b)) ∧ Below w.heap.size w w' := by
  obtain ⟨w1, hw1, b1, p1, q1⟩ := two_boxes w (oc a f l c p i) (oc b f' l' c' p' i')
  obtain ⟨x, hx⟩ : ∃ x, x = w.heap.size := ⟨_, rfl⟩
  obtain ⟨y, hy⟩ : ∃ y, y = w.heap.size + 1 := ⟨_, rfl⟩
  rw [← hx] at p1
  rw [← hy] at q1
  have x0 : w1.cell? ⟨x, 0, none⟩ = some (.int .i64 b.kind) := by simp [World.cell?, p1, oc, h_kind]
  have y0 : w1.cell? ⟨y, 0, none⟩ = some (.int .i64 b.kind) := by simp [World.cell?, q1, oc]
  have x1 : w1.cell? ⟨x, 1, none⟩ = some (.string b.name) := by simp [World.cell?, p1, oc, h_name]
  have y1 : w1.cell? ⟨y, 1, none⟩ = some (.string b.name) := by simp [World.cell?, q1, oc]
  have x2 : w1.cell? ⟨x, 2, none⟩ = some (.int .i64 b.uid) := by simp [World.cell?, p1, oc, h_uid]
  have y2 : w1.cell? ⟨y, 2, none⟩ = some (.int .i64 b.uid) := by simp [World.cell?, q1, oc]
  have x3 : w1.cell? ⟨x, 3, none⟩ = some (.int .i64 b.version) := by simp [World.cell?, p1, oc, h_version]
  have y3 : w1.cell? ⟨y, 3, none⟩ = some (.int .i64 b.version) := by simp [World.cell?, q1, oc]
  have x4 : w1.cell? ⟨x, 4, none⟩ = some (.bool b.deleting) := by simp [World.cell?, p1, oc, h_deleting]
  have y4 : w1.cell? ⟨y, 4, none⟩ = some (.bool b.deleting) := by simp [World.cell?, q1, oc]
  have x8 : w1.cell? ⟨x, 8, none⟩ = some (.string b.status) := by simp [World.cell?, p1, oc, h_status]
  have y8 : w1.cell? ⟨y, 8, none⟩ = some (.string b.status) := by simp [World.cell?, q1, oc]
  have x9 : w1.cell? ⟨x, 9, none⟩ = some (.int .i64 b.type) := by simp [World.cell?, p1, oc, h_type]
  have y9 : w1.cell? ⟨y, 9, none⟩ = some (.int .i64 b.type) := by simp [World.cell?, q1, oc]
  have x10 : w1.cell? ⟨x, 10, none⟩ = some (.int .i64 b.policy) := by simp [World.cell?, p1, oc, h_policy]
  have y10 : w1.cell? ⟨y, 10, none⟩ = some (.int .i64 b.policy) := by simp [World.cell?, q1, oc]
  have x13 : w1.cell? ⟨x, 13, none⟩ = some (.string b.v4) := by simp [World.cell?, p1, oc, h_v4]
  have y13 : w1.cell? ⟨y, 13, none⟩ = some (.string b.v4) := by simp [World.cell?, q1, oc]
  have x14 : w1.cell? ⟨x, 14, none⟩ = some (.string b.v6) := by simp [World.cell?, p1, oc, h_v6]
  have y14 : w1.cell? ⟨y, 14, none⟩ = some (.string b.v6) := by simp [World.cell?, q1, oc]
  have x15 : w1.cell? ⟨x, 15, none⟩ = some (.int .i64 b.bits) := by simp [World.cell?, p1, oc, h_bits]
  have y15 : w1.cell? ⟨y, 15, none⟩ = some (.int .i64 b.bits) := by simp [World.cell?, q1, oc]
  have x16 : w1.cell? ⟨x, 16, none⟩ = some (.string b.sel) := by simp [World.cell?, p1, oc, h_sel]
  have y16 : w1.cell? ⟨y, 16, none⟩ = some (.string b.sel) := by simp [World.cell?, q1, oc]
  have x17 : w1.cell? ⟨x, 17, none⟩ = some (.string b.about) := by simp [World.cell?, p1, oc, h_about]
  have y17 : w1.cell? ⟨y, 17, none⟩ = some (.string b.about) := by simp [World.cell?, q1, oc]
  have x18 : w1.cell? ⟨x, 18, none⟩ = some (.string a.reason) := by simp [World.cell?, p1, oc]
  have y18 : w1.cell? ⟨y, 18, none⟩ = some (.string b.reason) := by simp [World.cell?, q1, oc]
  have e13 : (a.reason.toList == b.reason.toList) = false := str_ne h_reason
  have HS := Lib.hid (sameB_ne_reason a b h_reason)
  have HW := Lib.hid hw1
  have B1 := Lib.hid b1
  clear b1 p1 q1 hw1 h_kind h_name h_uid h_version h_deleting h_status h_type h_policy h_v4 h_v6 h_bits h_sel h_about h_reason
  go_enter Try.func18, Try.ntmps18
  go_upto_region 1 with (fail)
  rw [← HW.out, ← hy, ← hx]
  clear hx hy
  go_wp2
  go_ret
  exact ⟨by rw [HS.out]; rfl, B1.out⟩
set_option maxRecDepth 100000 in
set_option maxHeartbeats 4000000 in
theorem same14_fams (a b : Ob) (f l c p i f' l' c' p' i' : Sl) (h_kind : a.kind = b.kind) (h_name : a.name = b.name) (h_uid : a.uid = b.uid) (h_version : a.version = b.version) (h_deleting : a.deleting = b.deleting) (h_status : a.status = b.status) (h_type : a.type = b.type) (h_policy : a.policy = b.policy) (h_v4 : a.v4 = b.v4) (h_v6 : a.v6 = b.v6) (h_bits : a.bits = b.bits) (h_sel : a.sel = b.sel) (h_about : a.about = b.about) (h_reason : a.reason = b.reason) (h_fams : ¬ a.fams.length = b.fams.length) (w : World) :
    Calls Try.prog 18 #[.agg (oc a f l c p i), .agg (oc b f' l' c' p' i')] w fun e w' => e = .returned (.bool (sameB a b)) ∧ Below w.heap.size w w' := by
  obtain ⟨w1, hw1, b1, p1, q1⟩ := two_boxes w (oc a f l c p i) (oc b f' l' c' p' i')
  obtain ⟨x, hx⟩ : ∃ x, x = w.heap.size := ⟨_, rfl⟩
  obtain ⟨y, hy⟩ : ∃ y, y = w.heap.size + 1 := ⟨_, rfl⟩
  rw [← hx] at p1
  rw [← hy] at q1
  have x0 : w1.cell? ⟨x, 0, none⟩ = some (.int .i64 b.kind) := by simp [World.cell?, p1, oc, h_kind]
  have y0 : w1.cell? ⟨y, 0, none⟩ = some (.int .i64 b.kind) := by simp [World.cell?, q1, oc]
  have x1 : w1.cell? ⟨x, 1, none⟩ = some (.string b.name) := by simp [World.cell?, p1, oc, h_name]
  have y1 : w1.cell? ⟨y, 1, none⟩ = some (.string b.name) := by simp [World.cell?, q1, oc]
  have x2 : w1.cell? ⟨x, 2, none⟩ = some (.int .i64 b.uid) := by simp [World.cell?, p1, oc, h_uid]
  have y2 : w1.cell? ⟨y, 2, none⟩ = some (.int .i64 b.uid) := by simp [World.cell?, q1, oc]
  have x3 : w1.cell? ⟨x, 3, none⟩ = some (.int .i64 b.version) := by simp [World.cell?, p1, oc, h_version]
  have y3 : w1.cell? ⟨y, 3, none⟩ = some (.int .i64 b.version) := by simp [World.cell?, q1, oc]
  have x4 : w1.cell? ⟨x, 4, none⟩ = some (.bool b.deleting) := by simp [World.cell?, p1, oc, h_deleting]
  have y4 : w1.cell? ⟨y, 4, none⟩ = some (.bool b.deleting) := by simp [World.cell?, q1, oc]
  have x8 : w1.cell? ⟨x, 8, none⟩ = some (.string b.status) := by simp [World.cell?, p1, oc, h_status]
  have y8 : w1.cell? ⟨y, 8, none⟩ = some (.string b.status) := by simp [World.cell?, q1, oc]
  have x9 : w1.cell? ⟨x, 9, none⟩ = some (.int .i64 b.type) := by simp [World.cell?, p1, oc, h_type]
  have y9 : w1.cell? ⟨y, 9, none⟩ = some (.int .i64 b.type) := by simp [World.cell?, q1, oc]
  have x10 : w1.cell? ⟨x, 10, none⟩ = some (.int .i64 b.policy) := by simp [World.cell?, p1, oc, h_policy]
  have y10 : w1.cell? ⟨y, 10, none⟩ = some (.int .i64 b.policy) := by simp [World.cell?, q1, oc]
  have x13 : w1.cell? ⟨x, 13, none⟩ = some (.string b.v4) := by simp [World.cell?, p1, oc, h_v4]
  have y13 : w1.cell? ⟨y, 13, none⟩ = some (.string b.v4) := by simp [World.cell?, q1, oc]
  have x14 : w1.cell? ⟨x, 14, none⟩ = some (.string b.v6) := by simp [World.cell?, p1, oc, h_v6]
  have y14 : w1.cell? ⟨y, 14, none⟩ = some (.string b.v6) := by simp [World.cell?, q1, oc]
  have x15 : w1.cell? ⟨x, 15, none⟩ = some (.int .i64 b.bits) := by simp [World.cell?, p1, oc, h_bits]
  have y15 : w1.cell? ⟨y, 15, none⟩ = some (.int .i64 b.bits) := by simp [World.cell?, q1, oc]
  have x16 : w1.cell? ⟨x, 16, none⟩ = some (.string b.sel) := by simp [World.cell?, p1, oc, h_sel]
  have y16 : w1.cell? ⟨y, 16, none⟩ = some (.string b.sel) := by simp [World.cell?, q1, oc]
  have x17 : w1.cell? ⟨x, 17, none⟩ = some (.string b.about) := by simp [World.cell?, p1, oc, h_about]
  have y17 : w1.cell? ⟨y, 17, none⟩ = some (.string b.about) := by simp [World.cell?, q1, oc]
  have x18 : w1.cell? ⟨x, 18, none⟩ = some (.string b.reason) := by simp [World.cell?, p1, oc, h_reason]
  have y18 : w1.cell? ⟨y, 18, none⟩ = some (.string b.reason) := by simp [World.cell?, q1, oc]
  have x11 : w1.cell? ⟨x, 11, none⟩ = some (.slice p.A a.fams.length p.c) := by simp [World.cell?, p1, oc]
  have y11 : w1.cell? ⟨y, 11, none⟩ = some (.slice p'.A b.fams.length p'.c) := by simp [World.cell?, q1, oc]
  have e14 : ((a.fams.length : Int) != (b.fams.length : Int)) = true := by simp; omega
  have HS := Lib.hid (sameB_ne_fams a b h_fams)
  have HW := Lib.hid hw1
  have B1 := Lib.hid b1
  clear b1 p1 q1 hw1 h_kind h_name h_uid h_version h_deleting h_status h_type h_policy h_v4 h_v6 h_bits h_sel h_about h_reason h_fams
  go_enter Try.func18, Try.ntmps18
  go_upto_region 1 with (fail)
  rw [← HW.out, ← hy, ← hx]
  clear hx hy
  go_wp2
  go_ret
  exact ⟨by rw [HS.out]; rfl, B1.out⟩
theorem sameB_flat (a b : Ob) (h_kind : a.kind = b.kind) (h_name : a.name = b.name) (h_uid : a.uid = b.uid) (h_version : a.version = b.version) (h_deleting : a.deleting = b.deleting) (h_status : a.status = b.status) (h_type : a.type = b.type) (h_policy : a.policy = b.policy) (h_v4 : a.v4 = b.v4) (h_v6 : a.v6 = b.v6) (h_bits : a.bits = b.bits) (h_sel : a.sel = b.sel) (h_about : a.about = b.about) (h_reason : a.reason = b.reason) : sameB a b = (decide (a.fins = b.fins) && (decide (a.labels = b.labels) && (decide (a.cidrs = b.cidrs) && (decide (a.fams = b.fams) && decide (a.ips = b.ips))))) := by
  simp only [sameB, flatB, h_kind, h_name, h_uid, h_version, h_deleting, h_status, h_type, h_policy, h_v4, h_v6, h_bits, h_sel, h_about, h_reason, decide_true, Bool.true_and]
set_option maxRecDepth 100000 in
set_option maxHeartbeats 4000000 in
theorem same14_wfam (a b : Ob) (f l c p i f' l' c' p' i' : Sl) (hs : a.fins.length ≤ 1000000 ∧ a.labels.length ≤ 1000000 ∧ a.cidrs.length ≤ 1000000 ∧ a.fams.length ≤ 1000000 ∧ a.ips.length ≤ 1000000) (h_kind : a.kind = b.kind) (h_name : a.name = b.name) (h_uid : a.uid = b.uid) (h_version : a.version = b.version) (h_deleting : a.deleting = b.deleting) (h_status : a.status = b.status) (h_type : a.type = b.type) (h_policy : a.policy = b.policy) (h_v4 : a.v4 = b.v4) (h_v6 : a.v6 = b.v6) (h_bits : a.bits = b.bits) (h_sel : a.sel = b.sel) (h_about : a.about = b.about) (h_reason : a.reason = b.reason) (h_fams : a.fams.length = b.fams.length) (w : World) (hr : RowsR w a f l c p i) (hq : RowsR w b f' l' c' p' i')
    (hm : ¬ a.fams = b.fams) :
    Calls Try.prog 18 #[.agg (oc a f l c p i), .agg (oc b f' l' c' p' i')] w fun e w' => e = .returned (.bool (sameB a b)) ∧ Below w.heap.size w w' := by
  obtain ⟨w1, hw1, b1, p1, q1⟩ := two_boxes w (oc a f l c p i) (oc b f' l' c' p' i')
  obtain ⟨x, hx⟩ : ∃ x, x = w.heap.size := ⟨_, rfl⟩
  obtain ⟨y, hy⟩ : ∃ y, y = w.heap.size + 1 := ⟨_, rfl⟩
  rw [← hx] at p1
  rw [← hy] at q1
  have x0 : w1.cell? ⟨x, 0, none⟩ = some (.int .i64 b.kind) := by simp [World.cell?, p1, oc, h_kind]
  have y0 : w1.cell? ⟨y, 0, none⟩ = some (.int .i64 b.kind) := by simp [World.cell?, q1, oc]
  have x1 : w1.cell? ⟨x, 1, none⟩ = some (.string b.name) := by simp [World.cell?, p1, oc, h_name]
  have y1 : w1.cell? ⟨y, 1, none⟩ = some (.string b.name) := by simp [World.cell?, q1, oc]
  have x2 : w1.cell? ⟨x, 2, none⟩ = some (.int .i64 b.uid) := by simp [World.cell?, p1, oc, h_uid]
  have y2 : w1.cell? ⟨y, 2, none⟩ = some (.int .i64 b.uid) := by simp [World.cell?, q1, oc]
  have x3 : w1.cell? ⟨x, 3, none⟩ = some (.int .i64 b.version) := by simp [World.cell?, p1, oc, h_version]
  have y3 : w1.cell? ⟨y, 3, none⟩ = some (.int .i64 b.version) := by simp [World.cell?, q1, oc]
  have x4 : w1.cell? ⟨x, 4, none⟩ = some (.bool b.deleting) := by simp [World.cell?, p1, oc, h_deleting]
  have y4 : w1.cell? ⟨y, 4, none⟩ = some (.bool b.deleting) := by simp [World.cell?, q1, oc]
  have x8 : w1.cell? ⟨x, 8, none⟩ = some (.string b.status) := by simp [World.cell?, p1, oc, h_status]
  have y8 : w1.cell? ⟨y, 8, none⟩ = some (.string b.status) := by simp [World.cell?, q1, oc]
  have x9 : w1.cell? ⟨x, 9, none⟩ = some (.int .i64 b.type) := by simp [World.cell?, p1, oc, h_type]
  have y9 : w1.cell? ⟨y, 9, none⟩ = some (.int .i64 b.type) := by simp [World.cell?, q1, oc]
  have x10 : w1.cell? ⟨x, 10, none⟩ = some (.int .i64 b.policy) := by simp [World.cell?, p1, oc, h_policy]
  have y10 : w1.cell? ⟨y, 10, none⟩ = some (.int .i64 b.policy) := by simp [World.cell?, q1, oc]
  have x13 : w1.cell? ⟨x, 13, none⟩ = some (.string b.v4) := by simp [World.cell?, p1, oc, h_v4]
  have y13 : w1.cell? ⟨y, 13, none⟩ = some (.string b.v4) := by simp [World.cell?, q1, oc]
  have x14 : w1.cell? ⟨x, 14, none⟩ = some (.string b.v6) := by simp [World.cell?, p1, oc, h_v6]
  have y14 : w1.cell? ⟨y, 14, none⟩ = some (.string b.v6) := by simp [World.cell?, q1, oc]
  have x15 : w1.cell? ⟨x, 15, none⟩ = some (.int .i64 b.bits) := by simp [World.cell?, p1, oc, h_bits]
  have y15 : w1.cell? ⟨y, 15, none⟩ = some (.int .i64 b.bits) := by simp [World.cell?, q1, oc]
  have x16 : w1.cell? ⟨x, 16, none⟩ = some (.string b.sel) := by simp [World.cell?, p1, oc, h_sel]
  have y16 : w1.cell? ⟨y, 16, none⟩ = some (.string b.sel) := by simp [World.cell?, q1, oc]
  have x17 : w1.cell? ⟨x, 17, none⟩ = some (.string b.about) := by simp [World.cell?, p1, oc, h_about]
  have y17 : w1.cell? ⟨y, 17, none⟩ = some (.string b.about) := by simp [World.cell?, q1, oc]
  have x18 : w1.cell? ⟨x, 18, none⟩ = some (.string b.reason) := by simp [World.cell?, p1, oc, h_reason]
  have y18 : w1.cell? ⟨y, 18, none⟩ = some (.string b.reason) := by simp [World.cell?, q1, oc]
  have x11 : w1.cell? ⟨x, 11, none⟩ = some (.slice p.A a.fams.length p.c) := by simp [World.cell?, p1, oc]
  have y11 : w1.cell? ⟨y, 11, none⟩ = some (.slice p'.A b.fams.length p'.c) := by simp [World.cell?, q1, oc]
  have x5 : w1.cell? ⟨x, 5, none⟩ = some (.slice f.A a.fins.length f.c) := by simp [World.cell?, p1, oc]
  have y5 : w1.cell? ⟨y, 5, none⟩ = some (.slice f'.A b.fins.length f'.c) := by simp [World.cell?, q1, oc]
  have x6 : w1.cell? ⟨x, 6, none⟩ = some (.slice l.A a.labels.length l.c) := by simp [World.cell?, p1, oc]
  have y6 : w1.cell? ⟨y, 6, none⟩ = some (.slice l'.A b.labels.length l'.c) := by simp [World.cell?, q1, oc]
  have x7 : w1.cell? ⟨x, 7, none⟩ = some (.slice c.A a.cidrs.length c.c) := by simp [World.cell?, p1, oc]
  have y7 : w1.cell? ⟨y, 7, none⟩ = some (.slice c'.A b.cidrs.length c'.c) := by simp [World.cell?, q1, oc]
  have x12 : w1.cell? ⟨x, 12, none⟩ = some (.slice i.A a.ips.length i.c) := by simp [World.cell?, p1, oc]
  have y12 : w1.cell? ⟨y, 12, none⟩ = some (.slice i'.A b.ips.length i'.c) := by simp [World.cell?, q1, oc]
  have e14 : ((a.fams.length : Int) != (b.fams.length : Int)) = false := by simp; omega
  have hS := sameB_flat a b h_kind h_name h_uid h_version h_deleting h_status h_type h_policy h_v4 h_v6 h_bits h_sel h_about h_reason
  rw [decide_eq_false hm] at hS; simp only [Bool.false_and, Bool.and_false] at hS
  have HS := Lib.hid hS
  have HM := Lib.hid hm
  have HL := Lib.hid h_fams
  have hml : (b.fams.length : Int) = a.fams.length := by omega
  have hl1 := hs.1
  have hl2 := hs.2.1
  have hl3 := hs.2.2.1
  have hl4 := hs.2.2.2.1
  have hl5 := hs.2.2.2.2
  have R1 := Lib.hid (hr.below b1)
  have R2 := Lib.hid (hq.below b1)
  have HW := Lib.hid hw1
  have B1 := Lib.hid b1
  clear hS b1 p1 q1 hw1 hr hq hs hml hm h_kind h_name h_uid h_version h_deleting h_status h_type h_policy h_v4 h_v6 h_bits h_sel h_about h_reason h_fams
  go_enter Try.func18, Try.ntmps18
  go_upto_region 1 with (fail)
  rw [← HW.out, ← hy, ← hx]
  clear hx hy
  go_wp2
  go_loopw [5] (fun j wr => ∃ k : Nat, k ≤ a.fams.length ∧ j = .int .i64 k ∧ Hid (a.fams.take k = b.fams.take k ∧ ∃ n, wr = w1.drewN n)) (fun j _ => a.fams.length - (intOf j).toNat)
  case atStart => exact ⟨0, Nat.zero_le _, rfl, Lib.hid ⟨by simp, 0, rfl⟩⟩
  case round =>
    obtain ⟨k, hk, rfl, H⟩ := hrel
    obtain ⟨n0, hn0⟩ := H.out.2
    subst hn0
    by_cases hkn : k < a.fams.length
    · obtain ⟨u, hu⟩ : ∃ u, a.fams[k]? = some u := ⟨_, List.getElem?_eq_getElem hkn⟩
      obtain ⟨v, hv⟩ : ∃ v, b.fams[k]? = some v := ⟨_, List.getElem?_eq_getElem (by have := HL.out; omega)⟩
      have h1 := flat_at cI 1 (fun _ => rfl) a.fams k u hu 0 (by omega)
      have h2 := flat_at cI 1 (fun _ => rfl) b.fams k v hv 0 (by omega)
      obtain ⟨ad, hA, e1⟩ := R1.out.pr _ _ h1
      obtain ⟨bd, hC, e2⟩ := R2.out.pr _ _ h2
      simp only [Nat.mul_one, Nat.add_zero] at e1 e2
      rw [hA] at x11
      rw [hC] at y11
      have hlb : (b.fams.length : Int) = a.fams.length := by have := HL.out; omega
      have hkb : (k : Int) < b.fams.length := by omega
      clear h1 h2 hA hC hlb
      by_cases huv : u = v
      · subst huv
        have hn := take_eq_next H.out.1 hu hv
        have HN := Lib.hid hn
        clear hu hv hn
        go_wp2
        go_quiet (fail)
        go_wp2
        go_roundw
        case rel => exact ⟨k + 1, by omega, by go_num, Lib.hid ⟨HN.out, ⟨_, rfl⟩⟩⟩
        case measure => simp [intOf]; omega
      · have hn := take_ne hu hv huv
        have hf : (u != v) = true := by simpa using huv
        clear hu hv hn huv
        go_wp2
        go_quiet (fail)
        go_wp2
        go_ret
        exact ⟨by rw [HS.out]; rfl, G.bdrewN (G.bdrewN B1.out _) _⟩
    · obtain rfl : k = a.fams.length := by omega
      have he : a.fams = b.fams := by
        have := H.out.1
        rwa [List.take_length, HL.out, List.take_length] at this
      exact absurd he HM.out
set_option maxRecDepth 100000 in
set_option maxHeartbeats 4000000 in
theorem same14_wfins (a b : Ob) (f l c p i f' l' c' p' i' : Sl) (hs : a.fins.length ≤ 1000000 ∧ a.labels.length ≤ 1000000 ∧ a.cidrs.length ≤ 1000000 ∧ a.fams.length ≤ 1000000 ∧ a.ips.length ≤ 1000000) (h_kind : a.kind = b.kind) (h_name : a.name = b.name) (h_uid : a.uid = b.uid) (h_version : a.version = b.version) (h_deleting : a.deleting = b.deleting) (h_status : a.status = b.status) (h_type : a.type = b.type) (h_policy : a.policy = b.policy) (h_v4 : a.v4 = b.v4) (h_v6 : a.v6 = b.v6) (h_bits : a.bits = b.bits) (h_sel : a.sel = b.sel) (h_about : a.about = b.about) (h_reason : a.reason = b.reason) (h_fams : a.fams.length = b.fams.length) (w : World) (hr : RowsR w a f l c p i) (hq : RowsR w b f' l' c' p' i')
    (hm : a.fams = b.fams) (d1 : ¬ a.fins = b.fins) :
    Calls Try.prog 18 #[.agg (oc a f l c p i), .agg (oc b f' l' c' p' i')] w fun e w' => e = .returned (.bool (sameB a b)) ∧ Below w.heap.size w w' := by
  obtain ⟨w1, hw1, b1, p1, q1⟩ := two_boxes w (oc a f l c p i) (oc b f' l' c' p' i')
  obtain ⟨x, hx⟩ : ∃ x, x = w.heap.size := ⟨_, rfl⟩
  obtain ⟨y, hy⟩ : ∃ y, y = w.heap.size + 1 := ⟨_, rfl⟩
  rw [← hx] at p1
  rw [← hy] at q1
  have x0 : w1.cell? ⟨x, 0, none⟩ = some (.int .i64 b.kind) := by simp [World.cell?, p1, oc, h_kind]
  have y0 : w1.cell? ⟨y, 0, none⟩ = some (.int .i64 b.kind) := by simp [World.cell?, q1, oc]
  have x1 : w1.cell? ⟨x, 1, none⟩ = some (.string b.name) := by simp [World.cell?, p1, oc, h_name]
  have y1 : w1.cell? ⟨y, 1, none⟩ = some (.string b.name) := by simp [World.cell?, q1, oc]
  have x2 : w1.cell? ⟨x, 2, none⟩ = some (.int .i64 b.uid) := by simp [World.cell?, p1, oc, h_uid]
  have y2 : w1.cell? ⟨y, 2, none⟩ = some (.int .i64 b.uid) := by simp [World.cell?, q1, oc]
  have x3 : w1.cell? ⟨x, 3, none⟩ = some (.int .i64 b.version) := by simp [World.cell?, p1, oc, h_version]
  have y3 : w1.cell? ⟨y, 3, none⟩ = some (.int .i64 b.version) := by simp [World.cell?, q1, oc]
  have x4 : w1.cell? ⟨x, 4, none⟩ = some (.bool b.deleting) := by simp [World.cell?, p1, oc, h_deleting]
  have y4 : w1.cell? ⟨y, 4, none⟩ = some (.bool b.deleting) := by simp [World.cell?, q1, oc]
  have x8 : w1.cell? ⟨x, 8, none⟩ = some (.string b.status) := by simp [World.cell?, p1, oc, h_status]
  have y8 : w1.cell? ⟨y, 8, none⟩ = some (.string b.status) := by simp [World.cell?, q1, oc]
  have x9 : w1.cell? ⟨x, 9, none⟩ = some (.int .i64 b.type) := by simp [World.cell?, p1, oc, h_type]
  have y9 : w1.cell? ⟨y, 9, none⟩ = some (.int .i64 b.type) := by simp [World.cell?, q1, oc]
  have x10 : w1.cell? ⟨x, 10, none⟩ = some (.int .i64 b.policy) := by simp [World.cell?, p1, oc, h_policy]
  have y10 : w1.cell? ⟨y, 10, none⟩ = some (.int .i64 b.policy) := by simp [World.cell?, q1, oc]
  have x13 : w1.cell? ⟨x, 13, none⟩ = some (.string b.v4) := by simp [World.cell?, p1, oc, h_v4]
  have y13 : w1.cell? ⟨y, 13, none⟩ = some (.string b.v4) := by simp [World.cell?, q1, oc]
  have x14 : w1.cell? ⟨x, 14, none⟩ = some (.string b.v6) := by simp [World.cell?, p1, oc, h_v6]
  have y14 : w1.cell? ⟨y, 14, none⟩ = some (.string b.v6) := by simp [World.cell?, q1, oc]
  have x15 : w1.cell? ⟨x, 15, none⟩ = some (.int .i64 b.bits) := by simp [World.cell?, p1, oc, h_bits]
  have y15 : w1.cell? ⟨y, 15, none⟩ = some (.int .i64 b.bits) := by simp [World.cell?, q1, oc]
  have x16 : w1.cell? ⟨x, 16, none⟩ = some (.string b.sel) := by simp [World.cell?, p1, oc, h_sel]
  have y16 : w1.cell? ⟨y, 16, none⟩ = some (.string b.sel) := by simp [World.cell?, q1, oc]
  have x17 : w1.cell? ⟨x, 17, none⟩ = some (.string b.about) := by simp [World.cell?, p1, oc, h_about]
  have y17 : w1.cell? ⟨y, 17, none⟩ = some (.string b.about) := by simp [World.cell?, q1, oc]
  have x18 : w1.cell? ⟨x, 18, none⟩ = some (.string b.reason) := by simp [World.cell?, p1, oc, h_reason]
  have y18 : w1.cell? ⟨y, 18, none⟩ = some (.string b.reason) := by simp [World.cell?, q1, oc]
  have x11 : w1.cell? ⟨x, 11, none⟩ = some (.slice p.A a.fams.length p.c) := by simp [World.cell?, p1, oc]
  have y11 : w1.cell? ⟨y, 11, none⟩ = some (.slice p'.A b.fams.length p'.c) := by simp [World.cell?, q1, oc]
  have x5 : w1.cell? ⟨x, 5, none⟩ = some (.slice f.A a.fins.length f.c) := by simp [World.cell?, p1, oc]
  have y5 : w1.cell? ⟨y, 5, none⟩ = some (.slice f'.A b.fins.length f'.c) := by simp [World.cell?, q1, oc]
  have x6 : w1.cell? ⟨x, 6, none⟩ = some (.slice l.A a.labels.length l.c) := by simp [World.cell?, p1, oc]
  have y6 : w1.cell? ⟨y, 6, none⟩ = some (.slice l'.A b.labels.length l'.c) := by simp [World.cell?, q1, oc]
  have x7 : w1.cell? ⟨x, 7, none⟩ = some (.slice c.A a.cidrs.length c.c) := by simp [World.cell?, p1, oc]
  have y7 : w1.cell? ⟨y, 7, none⟩ = some (.slice c'.A b.cidrs.length c'.c) := by simp [World.cell?, q1, oc]
  have x12 : w1.cell? ⟨x, 12, none⟩ = some (.slice i.A a.ips.length i.c) := by simp [World.cell?, p1, oc]
  have y12 : w1.cell? ⟨y, 12, none⟩ = some (.slice i'.A b.ips.length i'.c) := by simp [World.cell?, q1, oc]
  have e14 : ((a.fams.length : Int) != (b.fams.length : Int)) = false := by simp; omega
  have hS := sameB_flat a b h_kind h_name h_uid h_version h_deleting h_status h_type h_policy h_v4 h_v6 h_bits h_sel h_about h_reason
  rw [decide_eq_true hm, decide_eq_false d1] at hS
  simp only [Bool.true_and, Bool.false_and, Bool.and_false] at hS
  have D1 : decide (a.fins = b.fins) = false := decide_eq_false d1
  have HS := Lib.hid hS
  have HM := Lib.hid hm
  have HL := Lib.hid h_fams
  have hml : (b.fams.length : Int) = a.fams.length := by omega
  have hl1 := hs.1
  have hl2 := hs.2.1
  have hl3 := hs.2.2.1
  have hl4 := hs.2.2.2.1
  have hl5 := hs.2.2.2.2
  have R1 := Lib.hid (hr.below b1)
  have R2 := Lib.hid (hq.below b1)
  have HW := Lib.hid hw1
  have B1 := Lib.hid b1
  clear hS b1 p1 q1 hw1 hr hq hs hml hm h_kind h_name h_uid h_version h_deleting h_status h_type h_policy h_v4 h_v6 h_bits h_sel h_about h_reason h_fams d1
  go_enter Try.func18, Try.ntmps18
  go_upto_region 1 with (fail)
  rw [← HW.out, ← hy, ← hx]
  clear hx hy
  go_wp2
  go_loopw [5] (fun j wr => ∃ k : Nat, k ≤ a.fams.length ∧ j = .int .i64 k ∧ Hid (a.fams.take k = b.fams.take k ∧ ∃ n, wr = w1.drewN n)) (fun j _ => a.fams.length - (intOf j).toNat)
  case atStart => exact ⟨0, Nat.zero_le _, rfl, Lib.hid ⟨by simp, 0, rfl⟩⟩
  case round =>
    obtain ⟨k, hk, rfl, H⟩ := hrel
    obtain ⟨n0, hn0⟩ := H.out.2
    subst hn0
    by_cases hkn : k < a.fams.length
    · obtain ⟨u, hu⟩ : ∃ u, a.fams[k]? = some u := ⟨_, List.getElem?_eq_getElem hkn⟩
      obtain ⟨v, hv⟩ : ∃ v, b.fams[k]? = some v := ⟨_, List.getElem?_eq_getElem (by have := HL.out; omega)⟩
      have h1 := flat_at cI 1 (fun _ => rfl) a.fams k u hu 0 (by omega)
      have h2 := flat_at cI 1 (fun _ => rfl) b.fams k v hv 0 (by omega)
      obtain ⟨ad, hA, e1⟩ := R1.out.pr _ _ h1
      obtain ⟨bd, hC, e2⟩ := R2.out.pr _ _ h2
      simp only [Nat.mul_one, Nat.add_zero] at e1 e2
      rw [hA] at x11
      rw [hC] at y11
      have hlb : (b.fams.length : Int) = a.fams.length := by have := HL.out; omega
      have hkb : (k : Int) < b.fams.length := by omega
      clear h1 h2 hA hC hlb
      by_cases huv : u = v
      · subst huv
        have hn := take_eq_next H.out.1 hu hv
        have HN := Lib.hid hn
        clear hu hv hn
        go_wp2
        go_quiet (fail)
        go_wp2
        go_roundw
        case rel => exact ⟨k + 1, by omega, by go_num, Lib.hid ⟨HN.out, ⟨_, rfl⟩⟩⟩
        case measure => simp [intOf]; omega
      · have hn := take_ne hu hv huv
        exact absurd HM.out hn
    · obtain rfl : k = a.fams.length := by omega
      have he : a.fams = b.fams := by
        have := H.out.1
        rwa [List.take_length, HL.out, List.take_length] at this
      clear he
      have T := Lib.hid (show ∀ V, Below w1.heap.size w1 V → RowsR V a f l c p i ∧ RowsR V b f' l' c' p' i' from fun V h => ⟨R1.out.below h, R2.out.below h⟩)
      have hb0 : Below w1.heap.size w1 (w1.drewN n0) := G.bdrewN (Below.refl _ _) _
      have C1 := Lib.hid (eqrstr_any a.fins b.fins f.A f'.A f.c f'.c hl1 (w1.drewN n0) (T.out _ hb0).1.fr (T.out _ hb0).2.fr)
      go_wp2_with (fail)
      refine C1.out.mono ?_
      rintro e v1 ⟨rfl, hb1⟩
      have k1 : Below w1.heap.size w1 v1 := hb0.trans ⟨hb1.os, hb1.tape, hb1.output, hb1.size, hb1.block⟩
      have KF := Lib.hid k1
      clear k1
      go_wp2
      go_ret
      exact ⟨by rw [HS.out]; rfl, B1.out.trans (belowLe B1.out.size KF.out)⟩
set_option maxRecDepth 100000 in
set_option maxHeartbeats 4000000 in
theorem same14_wlabels (a b : Ob) (f l c p i f' l' c' p' i' : Sl) (hs : a.fins.length ≤ 1000000 ∧ a.labels.length ≤ 1000000 ∧ a.cidrs.length ≤ 1000000 ∧ a.fams.length ≤ 1000000 ∧ a.ips.length ≤ 1000000) (h_kind : a.kind = b.kind) (h_name : a.name = b.name) (h_uid : a.uid = b.uid) (h_version : a.version = b.version) (h_deleting : a.deleting = b.deleting) (h_status : a.status = b.status) (h_type : a.type = b.type) (h_policy : a.policy = b.policy) (h_v4 : a.v4 = b.v4) (h_v6 : a.v6 = b.v6) (h_bits : a.bits = b.bits) (h_sel : a.sel = b.sel) (h_about : a.about = b.about) (h_reason : a.reason = b.reason) (h_fams : a.fams.length = b.fams.length) (w : World) (hr : RowsR w a f l c p i) (hq : RowsR w b f' l' c' p' i')
    (hm : a.fams = b.fams) (d1 : a.fins = b.fins) (d2 : ¬ a.labels = b.labels) :
    Calls Try.prog 18 #[.agg (oc a f l c p i), .agg (oc b f' l' c' p' i')] w fun e w' => e = .returned (.bool (sameB a b)) ∧ Below w.heap.size w w' := by
  obtain ⟨w1, hw1, b1, p1, q1⟩ := two_boxes w (oc a f l c p i) (oc b f' l' c' p' i')
  obtain ⟨x, hx⟩ : ∃ x, x = w.heap.size := ⟨_, rfl⟩
  obtain ⟨y, hy⟩ : ∃ y, y = w.heap.size + 1 := ⟨_, rfl⟩
  rw [← hx] at p1
  rw [← hy] at q1
  have x0 : w1.cell? ⟨x, 0, none⟩ = some (.int .i64 b.kind) := by simp [World.cell?, p1, oc, h_kind]
  have y0 : w1.cell? ⟨y, 0, none⟩ = some (.int .i64 b.kind) := by simp [World.cell?, q1, oc]
  have x1 : w1.cell? ⟨x, 1, none⟩ = some (.string b.name) := by simp [World.cell?, p1, oc, h_name]
  have y1 : w1.cell? ⟨y, 1, none⟩ = some (.string b.name) := by simp [World.cell?, q1, oc]
  have x2 : w1.cell? ⟨x, 2, none⟩ = some (.int .i64 b.uid) := by simp [World.cell?, p1, oc, h_uid]
  have y2 : w1.cell? ⟨y, 2, none⟩ = some (.int .i64 b.uid) := by simp [World.cell?, q1, oc]
  have x3 : w1.cell? ⟨x, 3, none⟩ = some (.int .i64 b.version) := by simp [World.cell?, p1, oc, h_version]
  have y3 : w1.cell? ⟨y, 3, none⟩ = some (.int .i64 b.version) := by simp [World.cell?, q1, oc]
  have x4 : w1.cell? ⟨x, 4, none⟩ = some (.bool b.deleting) := by simp [World.cell?, p1, oc, h_deleting]
  have y4 : w1.cell? ⟨y, 4, none⟩ = some (.bool b.deleting) := by simp [World.cell?, q1, oc]
  have x8 : w1.cell? ⟨x, 8, none⟩ = some (.string b.status) := by simp [World.cell?, p1, oc, h_status]
  have y8 : w1.cell? ⟨y, 8, none⟩ = some (.string b.status) := by simp [World.cell?, q1, oc]
  have x9 : w1.cell? ⟨x, 9, none⟩ = some (.int .i64 b.type) := by simp [World.cell?, p1, oc, h_type]
  have y9 : w1.cell? ⟨y, 9, none⟩ = some (.int .i64 b.type) := by simp [World.cell?, q1, oc]
  have x10 : w1.cell? ⟨x, 10, none⟩ = some (.int .i64 b.policy) := by simp [World.cell?, p1, oc, h_policy]
  have y10 : w1.cell? ⟨y, 10, none⟩ = some (.int .i64 b.policy) := by simp [World.cell?, q1, oc]
  have x13 : w1.cell? ⟨x, 13, none⟩ = some (.string b.v4) := by simp [World.cell?, p1, oc, h_v4]
  have y13 : w1.cell? ⟨y, 13, none⟩ = some (.string b.v4) := by simp [World.cell?, q1, oc]
  have x14 : w1.cell? ⟨x, 14, none⟩ = some (.string b.v6) := by simp [World.cell?, p1, oc, h_v6]
  have y14 : w1.cell? ⟨y, 14, none⟩ = some (.string b.v6) := by simp [World.cell?, q1, oc]
  have x15 : w1.cell? ⟨x, 15, none⟩ = some (.int .i64 b.bits) := by simp [World.cell?, p1, oc, h_bits]
  have y15 : w1.cell? ⟨y, 15, none⟩ = some (.int .i64 b.bits) := by simp [World.cell?, q1, oc]
  have x16 : w1.cell? ⟨x, 16, none⟩ = some (.string b.sel) := by simp [World.cell?, p1, oc, h_sel]
  have y16 : w1.cell? ⟨y, 16, none⟩ = some (.string b.sel) := by simp [World.cell?, q1, oc]
  have x17 : w1.cell? ⟨x, 17, none⟩ = some (.string b.about) := by simp [World.cell?, p1, oc, h_about]
  have y17 : w1.cell? ⟨y, 17, none⟩ = some (.string b.about) := by simp [World.cell?, q1, oc]
  have x18 : w1.cell? ⟨x, 18, none⟩ = some (.string b.reason) := by simp [World.cell?, p1, oc, h_reason]
  have y18 : w1.cell? ⟨y, 18, none⟩ = some (.string b.reason) := by simp [World.cell?, q1, oc]
  have x11 : w1.cell? ⟨x, 11, none⟩ = some (.slice p.A a.fams.length p.c) := by simp [World.cell?, p1, oc]
  have y11 : w1.cell? ⟨y, 11, none⟩ = some (.slice p'.A b.fams.length p'.c) := by simp [World.cell?, q1, oc]
  have x5 : w1.cell? ⟨x, 5, none⟩ = some (.slice f.A a.fins.length f.c) := by simp [World.cell?, p1, oc]
  have y5 : w1.cell? ⟨y, 5, none⟩ = some (.slice f'.A b.fins.length f'.c) := by simp [World.cell?, q1, oc]
  have x6 : w1.cell? ⟨x, 6, none⟩ = some (.slice l.A a.labels.length l.c) := by simp [World.cell?, p1, oc]
  have y6 : w1.cell? ⟨y, 6, none⟩ = some (.slice l'.A b.labels.length l'.c) := by simp [World.cell?, q1, oc]
  have x7 : w1.cell? ⟨x, 7, none⟩ = some (.slice c.A a.cidrs.length c.c) := by simp [World.cell?, p1, oc]
  have y7 : w1.cell? ⟨y, 7, none⟩ = some (.slice c'.A b.cidrs.length c'.c) := by simp [World.cell?, q1, oc]
  have x12 : w1.cell? ⟨x, 12, none⟩ = some (.slice i.A a.ips.length i.c) := by simp [World.cell?, p1, oc]
  have y12 : w1.cell? ⟨y, 12, none⟩ = some (.slice i'.A b.ips.length i'.c) := by simp [World.cell?, q1, oc]
  have e14 : ((a.fams.length : Int) != (b.fams.length : Int)) = false := by simp; omega
  have hS := sameB_flat a b h_kind h_name h_uid h_version h_deleting h_status h_type h_policy h_v4 h_v6 h_bits h_sel h_about h_reason
  rw [decide_eq_true hm, decide_eq_true d1, decide_eq_false d2] at hS
  simp only [Bool.true_and, Bool.false_and, Bool.and_false] at hS
  have D1 : decide (a.fins = b.fins) = true := decide_eq_true d1
  have D2 : decide (a.labels = b.labels) = false := decide_eq_false d2
  have HS := Lib.hid hS
  have HM := Lib.hid hm
  have HL := Lib.hid h_fams
  have hml : (b.fams.length : Int) = a.fams.length := by omega
  have hl1 := hs.1
  have hl2 := hs.2.1
  have hl3 := hs.2.2.1
  have hl4 := hs.2.2.2.1
  have hl5 := hs.2.2.2.2
  have R1 := Lib.hid (hr.below b1)
  have R2 := Lib.hid (hq.below b1)
  have HW := Lib.hid hw1
  have B1 := Lib.hid b1
  clear hS b1 p1 q1 hw1 hr hq hs hml hm h_kind h_name h_uid h_version h_deleting h_status h_type h_policy h_v4 h_v6 h_bits h_sel h_about h_reason h_fams d1 d2
  go_enter Try.func18, Try.ntmps18
  go_upto_region 1 with (fail)
  rw [← HW.out, ← hy, ← hx]
  clear hx hy
  go_wp2
  go_loopw [5] (fun j wr => ∃ k : Nat, k ≤ a.fams.length ∧ j = .int .i64 k ∧ Hid (a.fams.take k = b.fams.take k ∧ ∃ n, wr = w1.drewN n)) (fun j _ => a.fams.length - (intOf j).toNat)
  case atStart => exact ⟨0, Nat.zero_le _, rfl, Lib.hid ⟨by simp, 0, rfl⟩⟩
  case round =>
    obtain ⟨k, hk, rfl, H⟩ := hrel
    obtain ⟨n0, hn0⟩ := H.out.2
    subst hn0
    by_cases hkn : k < a.fams.length
    · obtain ⟨u, hu⟩ : ∃ u, a.fams[k]? = some u := ⟨_, List.getElem?_eq_getElem hkn⟩
      obtain ⟨v, hv⟩ : ∃ v, b.fams[k]? = some v := ⟨_, List.getElem?_eq_getElem (by have := HL.out; omega)⟩
      have h1 := flat_at cI 1 (fun _ => rfl) a.fams k u hu 0 (by omega)
      have h2 := flat_at cI 1 (fun _ => rfl) b.fams k v hv 0 (by omega)
      obtain ⟨ad, hA, e1⟩ := R1.out.pr _ _ h1
      obtain ⟨bd, hC, e2⟩ := R2.out.pr _ _ h2
      simp only [Nat.mul_one, Nat.add_zero] at e1 e2
      rw [hA] at x11
      rw [hC] at y11
      have hlb : (b.fams.length : Int) = a.fams.length := by have := HL.out; omega
      have hkb : (k : Int) < b.fams.length := by omega
      clear h1 h2 hA hC hlb
      by_cases huv : u = v
      · subst huv
        have hn := take_eq_next H.out.1 hu hv
        have HN := Lib.hid hn
        clear hu hv hn
        go_wp2
        go_quiet (fail)
        go_wp2
        go_roundw
        case rel => exact ⟨k + 1, by omega, by go_num, Lib.hid ⟨HN.out, ⟨_, rfl⟩⟩⟩
        case measure => simp [intOf]; omega
      · have hn := take_ne hu hv huv
        exact absurd HM.out hn
    · obtain rfl : k = a.fams.length := by omega
      have he : a.fams = b.fams := by
        have := H.out.1
        rwa [List.take_length, HL.out, List.take_length] at this
      clear he
      have T := Lib.hid (show ∀ V, Below w1.heap.size w1 V → RowsR V a f l c p i ∧ RowsR V b f' l' c' p' i' from fun V h => ⟨R1.out.below h, R2.out.below h⟩)
      have hb0 : Below w1.heap.size w1 (w1.drewN n0) := G.bdrewN (Below.refl _ _) _
      have C1 := Lib.hid (eqrstr_any a.fins b.fins f.A f'.A f.c f'.c hl1 (w1.drewN n0) (T.out _ hb0).1.fr (T.out _ hb0).2.fr)
      go_wp2_with (fail)
      refine C1.out.mono ?_
      rintro e v1 ⟨rfl, hb1⟩
      have k1 : Below w1.heap.size w1 v1 := hb0.trans ⟨hb1.os, hb1.tape, hb1.output, hb1.size, hb1.block⟩
      have x5_v1 : v1.cell? ⟨x, 5, none⟩ = some (.slice f.A a.fins.length f.c) := G.cell_below k1 x5
      have y5_v1 : v1.cell? ⟨y, 5, none⟩ = some (.slice f'.A b.fins.length f'.c) := G.cell_below k1 y5
      have x6_v1 : v1.cell? ⟨x, 6, none⟩ = some (.slice l.A a.labels.length l.c) := G.cell_below k1 x6
      have y6_v1 : v1.cell? ⟨y, 6, none⟩ = some (.slice l'.A b.labels.length l'.c) := G.cell_below k1 y6
      have x7_v1 : v1.cell? ⟨x, 7, none⟩ = some (.slice c.A a.cidrs.length c.c) := G.cell_below k1 x7
      have y7_v1 : v1.cell? ⟨y, 7, none⟩ = some (.slice c'.A b.cidrs.length c'.c) := G.cell_below k1 y7
      have x12_v1 : v1.cell? ⟨x, 12, none⟩ = some (.slice i.A a.ips.length i.c) := G.cell_below k1 x12
      have y12_v1 : v1.cell? ⟨y, 12, none⟩ = some (.slice i'.A b.ips.length i'.c) := G.cell_below k1 y12
      have C2 := Lib.hid (eqrpair_any a.labels b.labels l.A l'.A l.c l'.c hl2 v1 (T.out _ k1).1.lr (T.out _ k1).2.lr)
      have K1 := Lib.hid k1
      clear k1
      go_wp2_with (fail)
      refine C2.out.mono ?_
      rintro e v2 ⟨rfl, hb2⟩
      have k2 : Below w1.heap.size w1 v2 := K1.out.trans (belowLe K1.out.size hb2)
      have KF := Lib.hid k2
      clear k2
      go_wp2
      go_ret
      exact ⟨by rw [HS.out]; rfl, B1.out.trans (belowLe B1.out.size KF.out)⟩
set_option maxRecDepth 100000 in
set_option maxHeartbeats 4000000 in
theorem same14_wcidrs (a b : Ob) (f l c p i f' l' c' p' i' : Sl) (hs : a.fins.length ≤ 1000000 ∧ a.labels.length ≤ 1000000 ∧ a.cidrs.length ≤ 1000000 ∧ a.fams.length ≤ 1000000 ∧ a.ips.length ≤ 1000000) (h_kind : a.kind = b.kind) (h_name : a.name = b.name) (h_uid : a.uid = b.uid) (h_version : a.version = b.version) (h_deleting : a.deleting = b.deleting) (h_status : a.status = b.status) (h_type : a.type = b.type) (h_policy : a.policy = b.policy) (h_v4 : a.v4 = b.v4) (h_v6 : a.v6 = b.v6) (h_bits : a.bits = b.bits) (h_sel : a.sel = b.sel) (h_about : a.about = b.about) (h_reason : a.reason = b.reason) (h_fams : a.fams.length = b.fams.length) (w : World) (hr : RowsR w a f l c p i) (hq : RowsR w b f' l' c' p' i')
    (hm : a.fams = b.fams) (d1 : a.fins = b.fins) (d2 : a.labels = b.labels) (d3 : ¬ a.cidrs = b.cidrs) :
    Calls Try.prog 18 #[.agg (oc a f l c p i), .agg (oc b f' l' c' p' i')] w fun e w' => e = .returned (.bool (sameB a b)) ∧ Below w.heap.size w w' := by
  obtain ⟨w1, hw1, b1, p1, q1⟩ := two_boxes w (oc a f l c p i) (oc b f' l' c' p' i')
  obtain ⟨x, hx⟩ : ∃ x, x = w.heap.size := ⟨_, rfl⟩
  obtain ⟨y, hy⟩ : ∃ y, y = w.heap.size + 1 := ⟨_, rfl⟩
  rw [← hx] at p1
  rw [← hy] at q1
  have x0 : w1.cell? ⟨x, 0, none⟩ = some (.int .i64 b.kind) := by simp [World.cell?, p1, oc, h_kind]
  have y0 : w1.cell? ⟨y, 0, none⟩ = some (.int .i64 b.kind) := by simp [World.cell?, q1, oc]
  have x1 : w1.cell? ⟨x, 1, none⟩ = some (.string b.name) := by simp [World.cell?, p1, oc, h_name]
  have y1 : w1.cell? ⟨y, 1, none⟩ = some (.string b.name) := by simp [World.cell?, q1, oc]
  have x2 : w1.cell? ⟨x, 2, none⟩ = some (.int .i64 b.uid) := by simp [World.cell?, p1, oc, h_uid]
  have y2 : w1.cell? ⟨y, 2, none⟩ = some (.int .i64 b.uid) := by simp [World.cell?, q1, oc]
  have x3 : w1.cell? ⟨x, 3, none⟩ = some (.int .i64 b.version) := by simp [World.cell?, p1, oc, h_version]
  have y3 : w1.cell? ⟨y, 3, none⟩ = some (.int .i64 b.version) := by simp [World.cell?, q1, oc]
  have x4 : w1.cell? ⟨x, 4, none⟩ = some (.bool b.deleting) := by simp [World.cell?, p1, oc, h_deleting]
  have y4 : w1.cell? ⟨y, 4, none⟩ = some (.bool b.deleting) := by simp [World.cell?, q1, oc]
  have x8 : w1.cell? ⟨x, 8, none⟩ = some (.string b.status) := by simp [World.cell?, p1, oc, h_status]
  have y8 : w1.cell? ⟨y, 8, none⟩ = some (.string b.status) := by simp [World.cell?, q1, oc]
  have x9 : w1.cell? ⟨x, 9, none⟩ = some (.int .i64 b.type) := by simp [World.cell?, p1, oc, h_type]
  have y9 : w1.cell? ⟨y, 9, none⟩ = some (.int .i64 b.type) := by simp [World.cell?, q1, oc]
  have x10 : w1.cell? ⟨x, 10, none⟩ = some (.int .i64 b.policy) := by simp [World.cell?, p1, oc, h_policy]
  have y10 : w1.cell? ⟨y, 10, none⟩ = some (.int .i64 b.policy) := by simp [World.cell?, q1, oc]
  have x13 : w1.cell? ⟨x, 13, none⟩ = some (.string b.v4) := by simp [World.cell?, p1, oc, h_v4]
  have y13 : w1.cell? ⟨y, 13, none⟩ = some (.string b.v4) := by simp [World.cell?, q1, oc]
  have x14 : w1.cell? ⟨x, 14, none⟩ = some (.string b.v6) := by simp [World.cell?, p1, oc, h_v6]
  have y14 : w1.cell? ⟨y, 14, none⟩ = some (.string b.v6) := by simp [World.cell?, q1, oc]
  have x15 : w1.cell? ⟨x, 15, none⟩ = some (.int .i64 b.bits) := by simp [World.cell?, p1, oc, h_bits]
  have y15 : w1.cell? ⟨y, 15, none⟩ = some (.int .i64 b.bits) := by simp [World.cell?, q1, oc]
  have x16 : w1.cell? ⟨x, 16, none⟩ = some (.string b.sel) := by simp [World.cell?, p1, oc, h_sel]
  have y16 : w1.cell? ⟨y, 16, none⟩ = some (.string b.sel) := by simp [World.cell?, q1, oc]
  have x17 : w1.cell? ⟨x, 17, none⟩ = some (.string b.about) := by simp [World.cell?, p1, oc, h_about]
  have y17 : w1.cell? ⟨y, 17, none⟩ = some (.string b.about) := by simp [World.cell?, q1, oc]
  have x18 : w1.cell? ⟨x, 18, none⟩ = some (.string b.reason) := by simp [World.cell?, p1, oc, h_reason]
  have y18 : w1.cell? ⟨y, 18, none⟩ = some (.string b.reason) := by simp [World.cell?, q1, oc]
  have x11 : w1.cell? ⟨x, 11, none⟩ = some (.slice p.A a.fams.length p.c) := by simp [World.cell?, p1, oc]
  have y11 : w1.cell? ⟨y, 11, none⟩ = some (.slice p'.A b.fams.length p'.c) := by simp [World.cell?, q1, oc]
  have x5 : w1.cell? ⟨x, 5, none⟩ = some (.slice f.A a.fins.length f.c) := by simp [World.cell?, p1, oc]
  have y5 : w1.cell? ⟨y, 5, none⟩ = some (.slice f'.A b.fins.length f'.c) := by simp [World.cell?, q1, oc]
  have x6 : w1.cell? ⟨x, 6, none⟩ = some (.slice l.A a.labels.length l.c) := by simp [World.cell?, p1, oc]
  have y6 : w1.cell? ⟨y, 6, none⟩ = some (.slice l'.A b.labels.length l'.c) := by simp [World.cell?, q1, oc]
  have x7 : w1.cell? ⟨x, 7, none⟩ = some (.slice c.A a.cidrs.length c.c) := by simp [World.cell?, p1, oc]
  have y7 : w1.cell? ⟨y, 7, none⟩ = some (.slice c'.A b.cidrs.length c'.c) := by simp [World.cell?, q1, oc]
  have x12 : w1.cell? ⟨x, 12, none⟩ = some (.slice i.A a.ips.length i.c) := by simp [World.cell?, p1, oc]
  have y12 : w1.cell? ⟨y, 12, none⟩ = some (.slice i'.A b.ips.length i'.c) := by simp [World.cell?, q1, oc]
  have e14 : ((a.fams.length : Int) != (b.fams.length : Int)) = false := by simp; omega
  have hS := sameB_flat a b h_kind h_name h_uid h_version h_deleting h_status h_type h_policy h_v4 h_v6 h_bits h_sel h_about h_reason
  rw [decide_eq_true hm, decide_eq_true d1, decide_eq_true d2, decide_eq_false d3] at hS
  simp only [Bool.true_and, Bool.false_and, Bool.and_false] at hS
  have D1 : decide (a.fins = b.fins) = true := decide_eq_true d1
  have D2 : decide (a.labels = b.labels) = true := decide_eq_true d2
  have D3 : decide (a.cidrs = b.cidrs) = false := decide_eq_false d3
  have HS := Lib.hid hS
  have HM := Lib.hid hm
  have HL := Lib.hid h_fams
  have hml : (b.fams.length : Int) = a.fams.length := by omega
  have hl1 := hs.1
  have hl2 := hs.2.1
  have hl3 := hs.2.2.1
  have hl4 := hs.2.2.2.1
  have hl5 := hs.2.2.2.2
  have R1 := Lib.hid (hr.below b1)
  have R2 := Lib.hid (hq.below b1)
  have HW := Lib.hid hw1
  have B1 := Lib.hid b1
  clear hS b1 p1 q1 hw1 hr hq hs hml hm h_kind h_name h_uid h_version h_deleting h_status h_type h_policy h_v4 h_v6 h_bits h_sel h_about h_reason h_fams d1 d2 d3
  go_enter Try.func18, Try.ntmps18
  go_upto_region 1 with (fail)
  rw [← HW.out, ← hy, ← hx]
  clear hx hy
  go_wp2
  go_loopw [5] (fun j wr => ∃ k : Nat, k ≤ a.fams.length ∧ j = .int .i64 k ∧ Hid (a.fams.take k = b.fams.take k ∧ ∃ n, wr = w1.drewN n)) (fun j _ => a.fams.length - (intOf j).toNat)
  case atStart => exact ⟨0, Nat.zero_le _, rfl, Lib.hid ⟨by simp, 0, rfl⟩⟩
  case round =>
    obtain ⟨k, hk, rfl, H⟩ := hrel
    obtain ⟨n0, hn0⟩ := H.out.2
    subst hn0
    by_cases hkn : k < a.fams.length
    · obtain ⟨u, hu⟩ : ∃ u, a.fams[k]? = some u := ⟨_, List.getElem?_eq_getElem hkn⟩
      obtain ⟨v, hv⟩ : ∃ v, b.fams[k]? = some v := ⟨_, List.getElem?_eq_getElem (by have := HL.out; omega)⟩
      have h1 := flat_at cI 1 (fun _ => rfl) a.fams k u hu 0 (by omega)
      have h2 := flat_at cI 1 (fun _ => rfl) b.fams k v hv 0 (by omega)
      obtain ⟨ad, hA, e1⟩ := R1.out.pr _ _ h1
      obtain ⟨bd, hC, e2⟩ := R2.out.pr _ _ h2
      simp only [Nat.mul_one, Nat.add_zero] at e1 e2
      rw [hA] at x11
      rw [hC] at y11
      have hlb : (b.fams.length : Int) = a.fams.length := by have := HL.out; omega
      have hkb : (k : Int) < b.fams.length := by omega
      clear h1 h2 hA hC hlb
      by_cases huv : u = v
      · subst huv
        have hn := take_eq_next H.out.1 hu hv
        have HN := Lib.hid hn
        clear hu hv hn
        go_wp2
        go_quiet (fail)
        go_wp2
        go_roundw
        case rel => exact ⟨k + 1, by omega, by go_num, Lib.hid ⟨HN.out, ⟨_, rfl⟩⟩⟩
        case measure => simp [intOf]; omega
      · have hn := take_ne hu hv huv
        exact absurd HM.out hn
    · obtain rfl : k = a.fams.length := by omega
      have he : a.fams = b.fams := by
        have := H.out.1
        rwa [List.take_length, HL.out, List.take_length] at this
      clear he
      have T := Lib.hid (show ∀ V, Below w1.heap.size w1 V → RowsR V a f l c p i ∧ RowsR V b f' l' c' p' i' from fun V h => ⟨R1.out.below h, R2.out.below h⟩)
      have hb0 : Below w1.heap.size w1 (w1.drewN n0) := G.bdrewN (Below.refl _ _) _
      have C1 := Lib.hid (eqrstr_any a.fins b.fins f.A f'.A f.c f'.c hl1 (w1.drewN n0) (T.out _ hb0).1.fr (T.out _ hb0).2.fr)
      go_wp2_with (fail)
      refine C1.out.mono ?_
      rintro e v1 ⟨rfl, hb1⟩
      have k1 : Below w1.heap.size w1 v1 := hb0.trans ⟨hb1.os, hb1.tape, hb1.output, hb1.size, hb1.block⟩
      have x5_v1 : v1.cell? ⟨x, 5, none⟩ = some (.slice f.A a.fins.length f.c) := G.cell_below k1 x5
      have y5_v1 : v1.cell? ⟨y, 5, none⟩ = some (.slice f'.A b.fins.length f'.c) := G.cell_below k1 y5
      have x6_v1 : v1.cell? ⟨x, 6, none⟩ = some (.slice l.A a.labels.length l.c) := G.cell_below k1 x6
      have y6_v1 : v1.cell? ⟨y, 6, none⟩ = some (.slice l'.A b.labels.length l'.c) := G.cell_below k1 y6
      have x7_v1 : v1.cell? ⟨x, 7, none⟩ = some (.slice c.A a.cidrs.length c.c) := G.cell_below k1 x7
      have y7_v1 : v1.cell? ⟨y, 7, none⟩ = some (.slice c'.A b.cidrs.length c'.c) := G.cell_below k1 y7
      have x12_v1 : v1.cell? ⟨x, 12, none⟩ = some (.slice i.A a.ips.length i.c) := G.cell_below k1 x12
      have y12_v1 : v1.cell? ⟨y, 12, none⟩ = some (.slice i'.A b.ips.length i'.c) := G.cell_below k1 y12
      have C2 := Lib.hid (eqrpair_any a.labels b.labels l.A l'.A l.c l'.c hl2 v1 (T.out _ k1).1.lr (T.out _ k1).2.lr)
      have K1 := Lib.hid k1
      clear k1
      go_wp2_with (fail)
      refine C2.out.mono ?_
      rintro e v2 ⟨rfl, hb2⟩
      have k2 : Below w1.heap.size w1 v2 := K1.out.trans (belowLe K1.out.size hb2)
      have x5_v2 : v2.cell? ⟨x, 5, none⟩ = some (.slice f.A a.fins.length f.c) := G.cell_below k2 x5
      have y5_v2 : v2.cell? ⟨y, 5, none⟩ = some (.slice f'.A b.fins.length f'.c) := G.cell_below k2 y5
      have x6_v2 : v2.cell? ⟨x, 6, none⟩ = some (.slice l.A a.labels.length l.c) := G.cell_below k2 x6
      have y6_v2 : v2.cell? ⟨y, 6, none⟩ = some (.slice l'.A b.labels.length l'.c) := G.cell_below k2 y6
      have x7_v2 : v2.cell? ⟨x, 7, none⟩ = some (.slice c.A a.cidrs.length c.c) := G.cell_below k2 x7
      have y7_v2 : v2.cell? ⟨y, 7, none⟩ = some (.slice c'.A b.cidrs.length c'.c) := G.cell_below k2 y7
      have x12_v2 : v2.cell? ⟨x, 12, none⟩ = some (.slice i.A a.ips.length i.c) := G.cell_below k2 x12
      have y12_v2 : v2.cell? ⟨y, 12, none⟩ = some (.slice i'.A b.ips.length i'.c) := G.cell_below k2 y12
      have C3 := Lib.hid (eqrstr_any a.cidrs b.cidrs c.A c'.A c.c c'.c hl3 v2 (T.out _ k2).1.cr (T.out _ k2).2.cr)
      have K2 := Lib.hid k2
      clear k2
      go_wp2_with (fail)
      refine C3.out.mono ?_
      rintro e v3 ⟨rfl, hb3⟩
      have k3 : Below w1.heap.size w1 v3 := K2.out.trans (belowLe K2.out.size hb3)
      have KF := Lib.hid k3
      clear k3
      go_wp2
      go_ret
      exact ⟨by rw [HS.out]; rfl, B1.out.trans (belowLe B1.out.size KF.out)⟩
set_option maxRecDepth 100000 in
set_option maxHeartbeats 4000000 in
theorem same14_wips (a b : Ob) (f l c p i f' l' c' p' i' : Sl) (hs : a.fins.length ≤ 1000000 ∧ a.labels.length ≤ 1000000 ∧ a.cidrs.length ≤ 1000000 ∧ a.fams.length ≤ 1000000 ∧ a.ips.length ≤ 1000000) (h_kind : a.kind = b.kind) (h_name : a.name = b.name) (h_uid : a.uid = b.uid) (h_version : a.version = b.version) (h_deleting : a.deleting = b.deleting) (h_status : a.status = b.status) (h_type : a.type = b.type) (h_policy : a.policy = b.policy) (h_v4 : a.v4 = b.v4) (h_v6 : a.v6 = b.v6) (h_bits : a.bits = b.bits) (h_sel : a.sel = b.sel) (h_about : a.about = b.about) (h_reason : a.reason = b.reason) (h_fams : a.fams.length = b.fams.length) (w : World) (hr : RowsR w a f l c p i) (hq : RowsR w b f' l' c' p' i')
    (hm : a.fams = b.fams) (d1 : a.fins = b.fins) (d2 : a.labels = b.labels) (d3 : a.cidrs = b.cidrs) :
    Calls Try.prog 18 #[.agg (oc a f l c p i), .agg (oc b f' l' c' p' i')] w fun e w' => e = .returned (.bool (sameB a b)) ∧ Below w.heap.size w w' := by
  obtain ⟨w1, hw1, b1, p1, q1⟩ := two_boxes w (oc a f l c p i) (oc b f' l' c' p' i')
  obtain ⟨x, hx⟩ : ∃ x, x = w.heap.size := ⟨_, rfl⟩
  obtain ⟨y, hy⟩ : ∃ y, y = w.heap.size + 1 := ⟨_, rfl⟩
  rw [← hx] at p1
  rw [← hy] at q1
  have x0 : w1.cell? ⟨x, 0, none⟩ = some (.int .i64 b.kind) := by simp [World.cell?, p1, oc, h_kind]
  have y0 : w1.cell? ⟨y, 0, none⟩ = some (.int .i64 b.kind) := by simp [World.cell?, q1, oc]
  have x1 : w1.cell? ⟨x, 1, none⟩ = some (.string b.name) := by simp [World.cell?, p1, oc, h_name]
  have y1 : w1.cell? ⟨y, 1, none⟩ = some (.string b.name) := by simp [World.cell?, q1, oc]
  have x2 : w1.cell? ⟨x, 2, none⟩ = some (.int .i64 b.uid) := by simp [World.cell?, p1, oc, h_uid]
  have y2 : w1.cell? ⟨y, 2, none⟩ = some (.int .i64 b.uid) := by simp [World.cell?, q1, oc]
  have x3 : w1.cell? ⟨x, 3, none⟩ = some (.int .i64 b.version) := by simp [World.cell?, p1, oc, h_version]
  have y3 : w1.cell? ⟨y, 3, none⟩ = some (.int .i64 b.version) := by simp [World.cell?, q1, oc]
  have x4 : w1.cell? ⟨x, 4, none⟩ = some (.bool b.deleting) := by simp [World.cell?, p1, oc, h_deleting]
  have y4 : w1.cell? ⟨y, 4, none⟩ = some (.bool b.deleting) := by simp [World.cell?, q1, oc]
  have x8 : w1.cell? ⟨x, 8, none⟩ = some (.string b.status) := by simp [World.cell?, p1, oc, h_status]
  have y8 : w1.cell? ⟨y, 8, none⟩ = some (.string b.status) := by simp [World.cell?, q1, oc]
  have x9 : w1.cell? ⟨x, 9, none⟩ = some (.int .i64 b.type) := by simp [World.cell?, p1, oc, h_type]
  have y9 : w1.cell? ⟨y, 9, none⟩ = some (.int .i64 b.type) := by simp [World.cell?, q1, oc]
  have x10 : w1.cell? ⟨x, 10, none⟩ = some (.int .i64 b.policy) := by simp [World.cell?, p1, oc, h_policy]
  have y10 : w1.cell? ⟨y, 10, none⟩ = some (.int .i64 b.policy) := by simp [World.cell?, q1, oc]
  have x13 : w1.cell? ⟨x, 13, none⟩ = some (.string b.v4) := by simp [World.cell?, p1, oc, h_v4]
  have y13 : w1.cell? ⟨y, 13, none⟩ = some (.string b.v4) := by simp [World.cell?, q1, oc]
  have x14 : w1.cell? ⟨x, 14, none⟩ = some (.string b.v6) := by simp [World.cell?, p1, oc, h_v6]
  have y14 : w1.cell? ⟨y, 14, none⟩ = some (.string b.v6) := by simp [World.cell?, q1, oc]
  have x15 : w1.cell? ⟨x, 15, none⟩ = some (.int .i64 b.bits) := by simp [World.cell?, p1, oc, h_bits]
  have y15 : w1.cell? ⟨y, 15, none⟩ = some (.int .i64 b.bits) := by simp [World.cell?, q1, oc]
  have x16 : w1.cell? ⟨x, 16, none⟩ = some (.string b.sel) := by simp [World.cell?, p1, oc, h_sel]
  have y16 : w1.cell? ⟨y, 16, none⟩ = some (.string b.sel) := by simp [World.cell?, q1, oc]
  have x17 : w1.cell? ⟨x, 17, none⟩ = some (.string b.about) := by simp [World.cell?, p1, oc, h_about]
  have y17 : w1.cell? ⟨y, 17, none⟩ = some (.string b.about) := by simp [World.cell?, q1, oc]
  have x18 : w1.cell? ⟨x, 18, none⟩ = some (.string b.reason) := by simp [World.cell?, p1, oc, h_reason]
  have y18 : w1.cell? ⟨y, 18, none⟩ = some (.string b.reason) := by simp [World.cell?, q1, oc]
  have x11 : w1.cell? ⟨x, 11, none⟩ = some (.slice p.A a.fams.length p.c) := by simp [World.cell?, p1, oc]
  have y11 : w1.cell? ⟨y, 11, none⟩ = some (.slice p'.A b.fams.length p'.c) := by simp [World.cell?, q1, oc]
  have x5 : w1.cell? ⟨x, 5, none⟩ = some (.slice f.A a.fins.length f.c) := by simp [World.cell?, p1, oc]
  have y5 : w1.cell? ⟨y, 5, none⟩ = some (.slice f'.A b.fins.length f'.c) := by simp [World.cell?, q1, oc]
  have x6 : w1.cell? ⟨x, 6, none⟩ = some (.slice l.A a.labels.length l.c) := by simp [World.cell?, p1, oc]
  have y6 : w1.cell? ⟨y, 6, none⟩ = some (.slice l'.A b.labels.length l'.c) := by simp [World.cell?, q1, oc]
  have x7 : w1.cell? ⟨x, 7, none⟩ = some (.slice c.A a.cidrs.length c.c) := by simp [World.cell?, p1, oc]
  have y7 : w1.cell? ⟨y, 7, none⟩ = some (.slice c'.A b.cidrs.length c'.c) := by simp [World.cell?, q1, oc]
  have x12 : w1.cell? ⟨x, 12, none⟩ = some (.slice i.A a.ips.length i.c) := by simp [World.cell?, p1, oc]
  have y12 : w1.cell? ⟨y, 12, none⟩ = some (.slice i'.A b.ips.length i'.c) := by simp [World.cell?, q1, oc]
  have e14 : ((a.fams.length : Int) != (b.fams.length : Int)) = false := by simp; omega
  have hS := sameB_flat a b h_kind h_name h_uid h_version h_deleting h_status h_type h_policy h_v4 h_v6 h_bits h_sel h_about h_reason
  rw [decide_eq_true hm, decide_eq_true d1, decide_eq_true d2, decide_eq_true d3] at hS
  simp only [Bool.true_and, Bool.false_and, Bool.and_false] at hS
  have D1 : decide (a.fins = b.fins) = true := decide_eq_true d1
  have D2 : decide (a.labels = b.labels) = true := decide_eq_true d2
  have D3 : decide (a.cidrs = b.cidrs) = true := decide_eq_true d3
  have HS := Lib.hid hS
  have HM := Lib.hid hm
  have HL := Lib.hid h_fams
  have hml : (b.fams.length : Int) = a.fams.length := by omega
  have hl1 := hs.1
  have hl2 := hs.2.1
  have hl3 := hs.2.2.1
  have hl4 := hs.2.2.2.1
  have hl5 := hs.2.2.2.2
  have R1 := Lib.hid (hr.below b1)
  have R2 := Lib.hid (hq.below b1)
  have HW := Lib.hid hw1
  have B1 := Lib.hid b1
  clear hS b1 p1 q1 hw1 hr hq hs hml hm h_kind h_name h_uid h_version h_deleting h_status h_type h_policy h_v4 h_v6 h_bits h_sel h_about h_reason h_fams d1 d2 d3
  go_enter Try.func18, Try.ntmps18
  go_upto_region 1 with (fail)
  rw [← HW.out, ← hy, ← hx]
  clear hx hy
  go_wp2
  go_loopw [5] (fun j wr => ∃ k : Nat, k ≤ a.fams.length ∧ j = .int .i64 k ∧ Hid (a.fams.take k = b.fams.take k ∧ ∃ n, wr = w1.drewN n)) (fun j _ => a.fams.length - (intOf j).toNat)
  case atStart => exact ⟨0, Nat.zero_le _, rfl, Lib.hid ⟨by simp, 0, rfl⟩⟩
  case round =>
    obtain ⟨k, hk, rfl, H⟩ := hrel
    obtain ⟨n0, hn0⟩ := H.out.2
    subst hn0
    by_cases hkn : k < a.fams.length
    · obtain ⟨u, hu⟩ : ∃ u, a.fams[k]? = some u := ⟨_, List.getElem?_eq_getElem hkn⟩
      obtain ⟨v, hv⟩ : ∃ v, b.fams[k]? = some v := ⟨_, List.getElem?_eq_getElem (by have := HL.out; omega)⟩
      have h1 := flat_at cI 1 (fun _ => rfl) a.fams k u hu 0 (by omega)
      have h2 := flat_at cI 1 (fun _ => rfl) b.fams k v hv 0 (by omega)
      obtain ⟨ad, hA, e1⟩ := R1.out.pr _ _ h1
      obtain ⟨bd, hC, e2⟩ := R2.out.pr _ _ h2
      simp only [Nat.mul_one, Nat.add_zero] at e1 e2
      rw [hA] at x11
      rw [hC] at y11
      have hlb : (b.fams.length : Int) = a.fams.length := by have := HL.out; omega
      have hkb : (k : Int) < b.fams.length := by omega
      clear h1 h2 hA hC hlb
      by_cases huv : u = v
      · subst huv
        have hn := take_eq_next H.out.1 hu hv
        have HN := Lib.hid hn
        clear hu hv hn
        go_wp2
        go_quiet (fail)
        go_wp2
        go_roundw
        case rel => exact ⟨k + 1, by omega, by go_num, Lib.hid ⟨HN.out, ⟨_, rfl⟩⟩⟩
        case measure => simp [intOf]; omega
      · have hn := take_ne hu hv huv
        exact absurd HM.out hn
    · obtain rfl : k = a.fams.length := by omega
      have he : a.fams = b.fams := by
        have := H.out.1
        rwa [List.take_length, HL.out, List.take_length] at this
      clear he
      have T := Lib.hid (show ∀ V, Below w1.heap.size w1 V → RowsR V a f l c p i ∧ RowsR V b f' l' c' p' i' from fun V h => ⟨R1.out.below h, R2.out.below h⟩)
      have hb0 : Below w1.heap.size w1 (w1.drewN n0) := G.bdrewN (Below.refl _ _) _
      have C1 := Lib.hid (eqrstr_any a.fins b.fins f.A f'.A f.c f'.c hl1 (w1.drewN n0) (T.out _ hb0).1.fr (T.out _ hb0).2.fr)
      go_wp2_with (fail)
      refine C1.out.mono ?_
      rintro e v1 ⟨rfl, hb1⟩
      have k1 : Below w1.heap.size w1 v1 := hb0.trans ⟨hb1.os, hb1.tape, hb1.output, hb1.size, hb1.block⟩
      have x5_v1 : v1.cell? ⟨x, 5, none⟩ = some (.slice f.A a.fins.length f.c) := G.cell_below k1 x5
      have y5_v1 : v1.cell? ⟨y, 5, none⟩ = some (.slice f'.A b.fins.length f'.c) := G.cell_below k1 y5
      have x6_v1 : v1.cell? ⟨x, 6, none⟩ = some (.slice l.A a.labels.length l.c) := G.cell_below k1 x6
      have y6_v1 : v1.cell? ⟨y, 6, none⟩ = some (.slice l'.A b.labels.length l'.c) := G.cell_below k1 y6
      have x7_v1 : v1.cell? ⟨x, 7, none⟩ = some (.slice c.A a.cidrs.length c.c) := G.cell_below k1 x7
      have y7_v1 : v1.cell? ⟨y, 7, none⟩ = some (.slice c'.A b.cidrs.length c'.c) := G.cell_below k1 y7
      have x12_v1 : v1.cell? ⟨x, 12, none⟩ = some (.slice i.A a.ips.length i.c) := G.cell_below k1 x12
      have y12_v1 : v1.cell? ⟨y, 12, none⟩ = some (.slice i'.A b.ips.length i'.c) := G.cell_below k1 y12
      have C2 := Lib.hid (eqrpair_any a.labels b.labels l.A l'.A l.c l'.c hl2 v1 (T.out _ k1).1.lr (T.out _ k1).2.lr)
      have K1 := Lib.hid k1
      clear k1
      go_wp2_with (fail)
      refine C2.out.mono ?_
      rintro e v2 ⟨rfl, hb2⟩
      have k2 : Below w1.heap.size w1 v2 := K1.out.trans (belowLe K1.out.size hb2)
      have x5_v2 : v2.cell? ⟨x, 5, none⟩ = some (.slice f.A a.fins.length f.c) := G.cell_below k2 x5
      have y5_v2 : v2.cell? ⟨y, 5, none⟩ = some (.slice f'.A b.fins.length f'.c) := G.cell_below k2 y5
      have x6_v2 : v2.cell? ⟨x, 6, none⟩ = some (.slice l.A a.labels.length l.c) := G.cell_below k2 x6
      have y6_v2 : v2.cell? ⟨y, 6, none⟩ = some (.slice l'.A b.labels.length l'.c) := G.cell_below k2 y6
      have x7_v2 : v2.cell? ⟨x, 7, none⟩ = some (.slice c.A a.cidrs.length c.c) := G.cell_below k2 x7
      have y7_v2 : v2.cell? ⟨y, 7, none⟩ = some (.slice c'.A b.cidrs.length c'.c) := G.cell_below k2 y7
      have x12_v2 : v2.cell? ⟨x, 12, none⟩ = some (.slice i.A a.ips.length i.c) := G.cell_below k2 x12
      have y12_v2 : v2.cell? ⟨y, 12, none⟩ = some (.slice i'.A b.ips.length i'.c) := G.cell_below k2 y12
      have C3 := Lib.hid (eqrstr_any a.cidrs b.cidrs c.A c'.A c.c c'.c hl3 v2 (T.out _ k2).1.cr (T.out _ k2).2.cr)
      have K2 := Lib.hid k2
      clear k2
      go_wp2_with (fail)
      refine C3.out.mono ?_
      rintro e v3 ⟨rfl, hb3⟩
      have k3 : Below w1.heap.size w1 v3 := K2.out.trans (belowLe K2.out.size hb3)
      have x5_v3 : v3.cell? ⟨x, 5, none⟩ = some (.slice f.A a.fins.length f.c) := G.cell_below k3 x5
      have y5_v3 : v3.cell? ⟨y, 5, none⟩ = some (.slice f'.A b.fins.length f'.c) := G.cell_below k3 y5
      have x6_v3 : v3.cell? ⟨x, 6, none⟩ = some (.slice l.A a.labels.length l.c) := G.cell_below k3 x6
      have y6_v3 : v3.cell? ⟨y, 6, none⟩ = some (.slice l'.A b.labels.length l'.c) := G.cell_below k3 y6
      have x7_v3 : v3.cell? ⟨x, 7, none⟩ = some (.slice c.A a.cidrs.length c.c) := G.cell_below k3 x7
      have y7_v3 : v3.cell? ⟨y, 7, none⟩ = some (.slice c'.A b.cidrs.length c'.c) := G.cell_below k3 y7
      have x12_v3 : v3.cell? ⟨x, 12, none⟩ = some (.slice i.A a.ips.length i.c) := G.cell_below k3 x12
      have y12_v3 : v3.cell? ⟨y, 12, none⟩ = some (.slice i'.A b.ips.length i'.c) := G.cell_below k3 y12
      have C4 := Lib.hid (eqrstr_any a.ips b.ips i.A i'.A i.c i'.c hl5 v3 (T.out _ k3).1.ir (T.out _ k3).2.ir)
      have K3 := Lib.hid k3
      clear k3
      go_wp2_with (fail)
      refine C4.out.mono ?_
      rintro e v4 ⟨rfl, hb4⟩
      have k4 : Below w1.heap.size w1 v4 := K3.out.trans (belowLe K3.out.size hb4)
      have KF := Lib.hid k4
      clear k4
      go_wp2
      go_ret
      exact ⟨by rw [HS.out]; rfl, B1.out.trans (belowLe B1.out.size KF.out)⟩
theorem same14_any (a b : Ob) (f l c p i f' l' c' p' i' : Sl) (hs : a.fins.length ≤ 1000000 ∧ a.labels.length ≤ 1000000 ∧ a.cidrs.length ≤ 1000000 ∧ a.fams.length ≤ 1000000 ∧ a.ips.length ≤ 1000000) (w : World) (hr : RowsR w a f l c p i) (hq : RowsR w b f' l' c' p' i') :
    Calls Try.prog 18 #[.agg (oc a f l c p i), .agg (oc b f' l' c' p' i')] w fun e w' => e = .returned (.bool (sameB a b)) ∧ Below w.heap.size w w' := by
  by_cases h_kind : a.kind = b.kind
  rotate_left
  · exact same14_kind a b f l c p i f' l' c' p' i' h_kind w
  by_cases h_name : a.name = b.name
  rotate_left
  · exact same14_name a b f l c p i f' l' c' p' i' h_kind h_name w
  by_cases h_uid : a.uid = b.uid
  rotate_left
  · exact same14_uid a b f l c p i f' l' c' p' i' h_kind h_name h_uid w
  by_cases h_version : a.version = b.version
  rotate_left
  · exact same14_version a b f l c p i f' l' c' p' i' h_kind h_name h_uid h_version w
  by_cases h_deleting : a.deleting = b.deleting
  rotate_left
  · exact same14_deleting a b f l c p i f' l' c' p' i' h_kind h_name h_uid h_version h_deleting w
  by_cases h_status : a.status = b.status
  rotate_left
  · exact same14_status a b f l c p i f' l' c' p' i' h_kind h_name h_uid h_version h_deleting h_status w
  by_cases h_type : a.type = b.type
  rotate_left
  · exact same14_type a b f l c p i f' l' c' p' i' h_kind h_name h_uid h_version h_deleting h_status h_type w
  by_cases h_policy : a.policy = b.policy
  rotate_left
  · exact same14_policy a b f l c p i f' l' c' p' i' h_kind h_name h_uid h_version h_deleting h_status h_type h_policy w
  by_cases h_v4 : a.v4 = b.v4
  rotate_left
  · exact same14_v4 a b f l c p i f' l' c' p' i' h_kind h_name h_uid h_version h_deleting h_status h_type h_policy h_v4 w
  by_cases h_v6 : a.v6 = b.v6
  rotate_left
  · exact same14_v6 a b f l c p i f' l' c' p' i' h_kind h_name h_uid h_version h_deleting h_status h_type h_policy h_v4 h_v6 w
  by_cases h_bits : a.bits = b.bits
  rotate_left
  · exact same14_bits a b f l c p i f' l' c' p' i' h_kind h_name h_uid h_version h_deleting h_status h_type h_policy h_v4 h_v6 h_bits w
  by_cases h_sel : a.sel = b.sel
  rotate_left
  · exact same14_sel a b f l c p i f' l' c' p' i' h_kind h_name h_uid h_version h_deleting h_status h_type h_policy h_v4 h_v6 h_bits h_sel w
  by_cases h_about : a.about = b.about
  rotate_left
  · exact same14_about a b f l c p i f' l' c' p' i' h_kind h_name h_uid h_version h_deleting h_status h_type h_policy h_v4 h_v6 h_bits h_sel h_about w
  by_cases h_reason : a.reason = b.reason
  rotate_left
  · exact same14_reason a b f l c p i f' l' c' p' i' h_kind h_name h_uid h_version h_deleting h_status h_type h_policy h_v4 h_v6 h_bits h_sel h_about h_reason w
  by_cases h_fams : a.fams.length = b.fams.length
  rotate_left
  · exact same14_fams a b f l c p i f' l' c' p' i' h_kind h_name h_uid h_version h_deleting h_status h_type h_policy h_v4 h_v6 h_bits h_sel h_about h_reason h_fams w
  by_cases hm : a.fams = b.fams
  rotate_left
  · exact same14_wfam a b f l c p i f' l' c' p' i' hs h_kind h_name h_uid h_version h_deleting h_status h_type h_policy h_v4 h_v6 h_bits h_sel h_about h_reason h_fams w hr hq hm
  by_cases d1 : a.fins = b.fins
  rotate_left
  · exact same14_wfins a b f l c p i f' l' c' p' i' hs h_kind h_name h_uid h_version h_deleting h_status h_type h_policy h_v4 h_v6 h_bits h_sel h_about h_reason h_fams w hr hq hm d1
  by_cases d2 : a.labels = b.labels
  rotate_left
  · exact same14_wlabels a b f l c p i f' l' c' p' i' hs h_kind h_name h_uid h_version h_deleting h_status h_type h_policy h_v4 h_v6 h_bits h_sel h_about h_reason h_fams w hr hq hm d1 d2
  by_cases d3 : a.cidrs = b.cidrs
  rotate_left
  · exact same14_wcidrs a b f l c p i f' l' c' p' i' hs h_kind h_name h_uid h_version h_deleting h_status h_type h_policy h_v4 h_v6 h_bits h_sel h_about h_reason h_fams w hr hq hm d1 d2 d3
  exact same14_wips a b f l c p i f' l' c' p' i' hs h_kind h_name h_uid h_version h_deleting h_status h_type h_policy h_v4 h_v6 h_bits h_sel h_about h_reason h_fams w hr hq hm d1 d2 d3
end Go.Proofs.Ytolndeolehkjoaa
