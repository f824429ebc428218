/- Requests: in memory; whole, Same. -/
import Derived.Test.YtolndeolehkjoaaWs0c
namespace Go.Proofs.Ytolndeolehkjoaa
set_option linter.unusedVariables false
set_option linter.unusedSimpArgs false
open Go.RowKit CodP
/-- a request -/
structure Rq where
  op : Int
  ob : Ob
  kind : Int
  name : ByteArray
  version : Int
def rq (q : Rq) (f l c p i : Sl) : Array Value := #[.int .i64 q.op, .int .i64 q.ob.kind, .string q.ob.name, .int .i64 q.ob.uid, .int .i64 q.ob.version, .bool q.ob.deleting, .slice f.A q.ob.fins.length f.c, .slice l.A q.ob.labels.length l.c, .slice c.A q.ob.cidrs.length c.c, .string q.ob.status, .int .i64 q.ob.type, .int .i64 q.ob.policy, .slice p.A q.ob.fams.length p.c, .slice i.A q.ob.ips.length i.c, .string q.ob.v4, .string q.ob.v6, .int .i64 q.ob.bits, .string q.ob.sel, .string q.ob.about, .string q.ob.reason, .int .i64 q.kind, .string q.name, .int .i64 q.version]
abbrev zrq : Array Value := #[.int .i64 0, .int .i64 0, .string ⟨#[]⟩, .int .i64 0, .int .i64 0, .bool false, .slice none 0 0, .slice none 0 0, .slice none 0 0, .string ⟨#[]⟩, .int .i64 0, .int .i64 0, .slice none 0 0, .slice none 0 0, .string ⟨#[]⟩, .string ⟨#[]⟩, .int .i64 0, .string ⟨#[]⟩, .string ⟨#[]⟩, .string ⟨#[]⟩, .int .i64 0, .string ⟨#[]⟩, .int .i64 0]
def zeroRq : Rq := ⟨0, zeroOb, 0, ⟨#[]⟩, 0⟩
theorem size51 : (Try.prog.info? 51).map (·.size) = some 23 := by kernel_rfl
theorem rq_one (q : Rq) (f l c p i : Sl) : (rq q f l c p i).all (·.oneCell') = true := by simp [rq, Value.oneCell']
theorem rq_list (q : Rq) (f l c p i : Sl) : (rq q f l c p i).toList = .int .i64 q.op :: (ec ⟨q.ob, f, l, c, p, i⟩ ++ [.int .i64 q.kind, .string q.name, .int .i64 q.version]) := rfl
theorem rq_mid {w : World} {x : Nat} {q : Rq} {f l c p i : Sl} (h : w.heap[x]? = some (.cells (rq q f l c p i) 51 (0, 0))) : w.rangeAt x 1 (ec ⟨q.ob, f, l, c, p, i⟩) := fun j v hj => by
  have hj19 : j < (ec ⟨q.ob, f, l, c, p, i⟩).length := by
    rcases Nat.lt_or_ge j (ec ⟨q.ob, f, l, c, p, i⟩).length with h1 | h1
    · exact h1
    · rw [List.getElem?_eq_none h1] at hj; cases hj
  have e : (rq q f l c p i)[1 + j]? = some v := by
    rw [← Array.getElem?_toList, rq_list, Nat.add_comm, List.getElem?_cons_succ, List.getElem?_append_left hj19]
    exact hj
  simp only [World.cell?, h]
  exact e
theorem wp_load_elem {op : Oper} {a : Act} {w : World} {K : Act → World → Prop} {Q : Exit → Act → World → Prop} (x : Operand) (ho : op.op = .load 32 x)
    (b p : Nat) (hx : a.eval x = .pointer (some ⟨b, p, none⟩)) (e : OE) (hc : w.rangeAt b p (ec e)) (h : K (a.put op.dst (.agg (oc e.o e.f e.l e.c e.p e.i))) w) : op.wp Try.prog a w K Q :=
  wp_load_mid 32 x ho b p hx (ec e) _ hc Try.underlying32 rfl size32 (by rw [ec, Array.toArray_toList]; exact h)
def sameRq (a b : Rq) : Bool := decide (a.op = b.op) && (decide (a.kind = b.kind) && (decide (a.name = b.name) && (decide (a.version = b.version) && sameB a.ob b.ob)))
theorem sameRq_self (a : Rq) : sameRq a a = true := by simp [sameRq, sameB_self]
theorem two_rqs (w : World) (cs ds : Array Value) : ∃ w1, w1 = (w.alloc (.cells cs 51)).alloc (.cells ds 51) ∧ Below w.heap.size w w1 ∧ w1.heap[w.heap.size]? = some (.cells cs 51 (0, 0)) ∧ w1.heap[w.heap.size + 1]? = some (.cells ds 51 (0, 0)) := by
  refine ⟨_, rfl, G.bthen (bel_alloc _ _) (bel_alloc _ _), ((bel_alloc _ _).block _ (by simp)).trans (G.heap_new _ _), ?_⟩
  have h2 := G.heap_new (w.alloc (.cells cs 51)) (.cells ds 51)
  rw [show (w.alloc (.cells cs 51)).heap.size = w.heap.size + 1 by simp] at h2
  exact h2
theorem rq_at (x : Nat) (q : Rq) (f l c p i : Sl) : (∀ V : World, V.heap[x]? = some (.cells (rq q f l c p i) 51 (0, 0)) → V.cell? ⟨x, 0, none⟩ = some (.int .i64 q.op)) ∧ (∀ V : World, V.heap[x]? = some (.cells (rq q f l c p i) 51 (0, 0)) → V.cell? ⟨x, 20, none⟩ = some (.int .i64 q.kind)) ∧ (∀ V : World, V.heap[x]? = some (.cells (rq q f l c p i) 51 (0, 0)) → V.cell? ⟨x, 21, none⟩ = some (.string q.name)) ∧ (∀ V : World, V.heap[x]? = some (.cells (rq q f l c p i) 51 (0, 0)) → V.cell? ⟨x, 22, none⟩ = some (.int .i64 q.version)) := by
  refine ⟨?_, ?_, ?_, ?_⟩ <;> (intro V hV; simp [World.cell?, hV, rq])
set_option maxRecDepth 100000 in
theorem whole_0 (n : Int) (hk : n = 1) (w : World) : Calls Try.prog 55 #[.int .i64 n] w fun e w' => e = .returned (.bool true) ∧ w' = w := by
  have h1 : (n == 1) = true := by simp [hk]
  clear hk
  go_enter Try.func55, Try.ntmps55
  go_wp2
  go_ret
  exact ⟨rfl, rfl⟩
set_option maxRecDepth 100000 in
theorem whole_1 (n : Int) (hk : n = 2) (w : World) : Calls Try.prog 55 #[.int .i64 n] w fun e w' => e = .returned (.bool true) ∧ w' = w := by
  have h1 : (n == 1) = false := by rw [hk]; rfl
  have h2 : (n == 2) = true := by simp [hk]
  clear hk
  go_enter Try.func55, Try.ntmps55
  go_wp2
  go_ret
  exact ⟨rfl, rfl⟩
set_option maxRecDepth 100000 in
theorem whole_2 (n : Int) (hk : n ≠ 1 ∧ n ≠ 2) (w : World) : Calls Try.prog 55 #[.int .i64 n] w fun e w' => e = .returned (.bool false) ∧ w' = w := by
  have h1 : (n == 1) = false := by simp [hk.1]
  have h2 : (n == 2) = false := by simp [hk.2]
  clear hk
  go_enter Try.func55, Try.ntmps55
  go_wp2
  go_ret
  exact ⟨rfl, rfl⟩
def wholeB (n : Int) : Bool := decide (n = 1 ∨ n = 2)
theorem whole_any (n : Int) (r : Bool) (hr : wholeB n = r) (w : World) : Calls Try.prog 55 #[.int .i64 n] w fun e w' => e = .returned (.bool r) ∧ w' = w := by
  subst hr
  unfold wholeB
  by_cases h1 : n = 1
  · rw [decide_eq_true (.inl h1)]; exact whole_0 n h1 w
  by_cases h2 : n = 2
  · rw [decide_eq_true (.inr h2)]; exact whole_1 n h2 w
  · rw [decide_eq_false (by rintro (h | h); exact h1 h; exact h2 h)]; exact whole_2 n ⟨h1, h2⟩ w
set_option maxRecDepth 100000 in
set_option maxHeartbeats 4000000 in
theorem samerq_0 (a b : Rq) (f l c p i f' l' c' p' i' : Sl) (hs : a.ob.fins.length ≤ 1000000 ∧ a.ob.labels.length ≤ 1000000 ∧ a.ob.cidrs.length ≤ 1000000 ∧ a.ob.fams.length ≤ 1000000 ∧ a.ob.ips.length ≤ 1000000) (h_op : ¬ a.op = b.op) (w : World) (hr : RowsR w a.ob f l c p i) (hq : RowsR w b.ob f' l' c' p' i') :
    Calls Try.prog 28 #[.agg (rq a f l c p i), .agg (rq b f' l' c' p' i')] w fun e w' => e = .returned (.bool (sameRq a b)) ∧ Below w.heap.size w w' := by
  obtain ⟨w1, hw1, b1, p1, q1⟩ := two_rqs w (rq a f l c p i) (rq b f' l' c' p' i')
  obtain ⟨x, hx⟩ : ∃ x, x = w.heap.size := ⟨_, rfl⟩
  obtain ⟨y, hy⟩ : ∃ y, y = w.heap.size + 1 := ⟨_, rfl⟩
  rw [← hx] at p1
  rw [← hy] at q1
  have x0 : ∀ V : World, V.heap[x]? = some (.cells (rq a f l c p i) 51 (0, 0)) → V.cell? ⟨x, 0, none⟩ = some (.int .i64 a.op) := fun V hV => by simp [World.cell?, hV, rq]
  have y0 : ∀ V : World, V.heap[y]? = some (.cells (rq b f' l' c' p' i') 51 (0, 0)) → V.cell? ⟨y, 0, none⟩ = some (.int .i64 b.op) := fun V hV => by simp [World.cell?, hV, rq]
  have e0 : (a.op == b.op) = false := by simpa using h_op
  have hS : sameRq a b = false := by simp [sameRq, h_op]
  have HS := Lib.hid hS
  have HW := Lib.hid hw1
  have B1 := Lib.hid b1
  have P1 := Lib.hid p1
  have Q1 := Lib.hid q1
  have X0 := Lib.hid x0
  have Y0 := Lib.hid y0
  have cx0 := x0 _ p1
  have cy0 := y0 _ q1
  clear hS hw1 b1 p1 q1 hr hq hs h_op x0 y0
  go_enter Try.func28, Try.ntmps28
  go_upto_region 1 with (fail)
  rw [← HW.out, ← hy, ← hx]
  clear hx hy
  go_wp2
  go_ret
  exact ⟨by rw [HS.out]; rfl, B1.out⟩
set_option maxRecDepth 100000 in
set_option maxHeartbeats 4000000 in
theorem samerq_1 (a b : Rq) (f l c p i f' l' c' p' i' : Sl) (hs : a.ob.fins.length ≤ 1000000 ∧ a.ob.labels.length ≤ 1000000 ∧ a.ob.cidrs.length ≤ 1000000 ∧ a.ob.fams.length ≤ 1000000 ∧ a.ob.ips.length ≤ 1000000) (h_op : a.op = b.op) (h_kind : ¬ a.kind = b.kind) (w : World) (hr : RowsR w a.ob f l c p i) (hq : RowsR w b.ob f' l' c' p' i') :
    Calls Try.prog 28 #[.agg (rq a f l c p i), .agg (rq b f' l' c' p' i')] w fun e w' => e = .returned (.bool (sameRq a b)) ∧ Below w.heap.size w w' := by
  obtain ⟨w1, hw1, b1, p1, q1⟩ := two_rqs w (rq a f l c p i) (rq b f' l' c' p' i')
  obtain ⟨x, hx⟩ : ∃ x, x = w.heap.size := ⟨_, rfl⟩
  obtain ⟨y, hy⟩ : ∃ y, y = w.heap.size + 1 := ⟨_, rfl⟩
  rw [← hx] at p1
  rw [← hy] at q1
  have x0 : ∀ V : World, V.heap[x]? = some (.cells (rq a f l c p i) 51 (0, 0)) → V.cell? ⟨x, 0, none⟩ = some (.int .i64 b.op) := fun V hV => by simp [World.cell?, hV, rq, h_op]
  have y0 : ∀ V : World, V.heap[y]? = some (.cells (rq b f' l' c' p' i') 51 (0, 0)) → V.cell? ⟨y, 0, none⟩ = some (.int .i64 b.op) := fun V hV => by simp [World.cell?, hV, rq]
  have x20 : ∀ V : World, V.heap[x]? = some (.cells (rq a f l c p i) 51 (0, 0)) → V.cell? ⟨x, 20, none⟩ = some (.int .i64 a.kind) := fun V hV => by simp [World.cell?, hV, rq]
  have y20 : ∀ V : World, V.heap[y]? = some (.cells (rq b f' l' c' p' i') 51 (0, 0)) → V.cell? ⟨y, 20, none⟩ = some (.int .i64 b.kind) := fun V hV => by simp [World.cell?, hV, rq]
  have e20 : (a.kind == b.kind) = false := by simpa using h_kind
  have hS : sameRq a b = false := by simp [sameRq, h_op, h_kind]
  have HS := Lib.hid hS
  have HW := Lib.hid hw1
  have B1 := Lib.hid b1
  have P1 := Lib.hid p1
  have Q1 := Lib.hid q1
  have X0 := Lib.hid x0
  have Y0 := Lib.hid y0
  have cx0 := x0 _ p1
  have cy0 := y0 _ q1
  have X20 := Lib.hid x20
  have Y20 := Lib.hid y20
  have cx20 := x20 _ p1
  have cy20 := y20 _ q1
  clear hS hw1 b1 p1 q1 hr hq hs h_op h_kind x0 y0 x20 y20
  go_enter Try.func28, Try.ntmps28
  go_upto_region 1 with (fail)
  rw [← HW.out, ← hy, ← hx]
  clear hx hy
  go_wp2
  go_ret
  exact ⟨by rw [HS.out]; rfl, B1.out⟩
set_option maxRecDepth 100000 in
set_option maxHeartbeats 4000000 in
theorem samerq_2 (a b : Rq) (f l c p i f' l' c' p' i' : Sl) (hs : a.ob.fins.length ≤ 1000000 ∧ a.ob.labels.length ≤ 1000000 ∧ a.ob.cidrs.length ≤ 1000000 ∧ a.ob.fams.length ≤ 1000000 ∧ a.ob.ips.length ≤ 1000000) (h_op : a.op = b.op) (h_kind : a.kind = b.kind) (h_name : ¬ a.name = b.name) (w : World) (hr : RowsR w a.ob f l c p i) (hq : RowsR w b.ob f' l' c' p' i') :
    Calls Try.prog 28 #[.agg (rq a f l c p i), .agg (rq b f' l' c' p' i')] w fun e w' => e = .returned (.bool (sameRq a b)) ∧ Below w.heap.size w w' := by
  obtain ⟨w1, hw1, b1, p1, q1⟩ := two_rqs w (rq a f l c p i) (rq b f' l' c' p' i')
  obtain ⟨x, hx⟩ : ∃ x, x = w.heap.size := ⟨_, rfl⟩
  obtain ⟨y, hy⟩ : ∃ y, y = w.heap.size + 1 := ⟨_, rfl⟩
  rw [← hx] at p1
  rw [← hy] at q1
  have x0 : ∀ V : World, V.heap[x]? = some (.cells (rq a f l c p i) 51 (0, 0)) → V.cell? ⟨x, 0, none⟩ = some (.int .i64 b.op) := fun V hV => by simp [World.cell?, hV, rq, h_op]
  have y0 : ∀ V : World, V.heap[y]? = some (.cells (rq b f' l' c' p' i') 51 (0, 0)) → V.cell? ⟨y, 0, none⟩ = some (.int .i64 b.op) := fun V hV => by simp [World.cell?, hV, rq]
  have x20 : ∀ V : World, V.heap[x]? = some (.cells (rq a f l c p i) 51 (0, 0)) → V.cell? ⟨x, 20, none⟩ = some (.int .i64 b.kind) := fun V hV => by simp [World.cell?, hV, rq, h_kind]
  have y20 : ∀ V : World, V.heap[y]? = some (.cells (rq b f' l' c' p' i') 51 (0, 0)) → V.cell? ⟨y, 20, none⟩ = some (.int .i64 b.kind) := fun V hV => by simp [World.cell?, hV, rq]
  have x21 : ∀ V : World, V.heap[x]? = some (.cells (rq a f l c p i) 51 (0, 0)) → V.cell? ⟨x, 21, none⟩ = some (.string a.name) := fun V hV => by simp [World.cell?, hV, rq]
  have y21 : ∀ V : World, V.heap[y]? = some (.cells (rq b f' l' c' p' i') 51 (0, 0)) → V.cell? ⟨y, 21, none⟩ = some (.string b.name) := fun V hV => by simp [World.cell?, hV, rq]
  have e21 : (a.name.toList == b.name.toList) = false := str_ne h_name
  have hS : sameRq a b = false := by simp [sameRq, h_op, h_kind, h_name]
  have HS := Lib.hid hS
  have HW := Lib.hid hw1
  have B1 := Lib.hid b1
  have P1 := Lib.hid p1
  have Q1 := Lib.hid q1
  have X0 := Lib.hid x0
  have Y0 := Lib.hid y0
  have cx0 := x0 _ p1
  have cy0 := y0 _ q1
  have X20 := Lib.hid x20
  have Y20 := Lib.hid y20
  have cx20 := x20 _ p1
  have cy20 := y20 _ q1
  have X21 := Lib.hid x21
  have Y21 := Lib.hid y21
  have cx21 := x21 _ p1
  have cy21 := y21 _ q1
  clear hS hw1 b1 p1 q1 hr hq hs h_op h_kind h_name x0 y0 x20 y20 x21 y21
  go_enter Try.func28, Try.ntmps28
  go_upto_region 1 with (fail)
  rw [← HW.out, ← hy, ← hx]
  clear hx hy
  go_wp2
  go_ret
  exact ⟨by rw [HS.out]; rfl, B1.out⟩
set_option maxRecDepth 100000 in
set_option maxHeartbeats 4000000 in
theorem samerq_3 (a b : Rq) (f l c p i f' l' c' p' i' : Sl) (hs : a.ob.fins.length ≤ 1000000 ∧ a.ob.labels.length ≤ 1000000 ∧ a.ob.cidrs.length ≤ 1000000 ∧ a.ob.fams.length ≤ 1000000 ∧ a.ob.ips.length ≤ 1000000) (h_op : a.op = b.op) (h_kind : a.kind = b.kind) (h_name : a.name = b.name) (h_version : ¬ a.version = b.version) (w : World) (hr : RowsR w a.ob f l c p i) (hq : RowsR w b.ob f' l' c' p' i') :
    Calls Try.prog 28 #[.agg (rq a f l c p i), .agg (rq b f' l' c' p' i')] w fun e w' => e = .returned (.bool (sameRq a b)) ∧ Below w.heap.size w w' := by
  obtain ⟨w1, hw1, b1, p1, q1⟩ := two_rqs w (rq a f l c p i) (rq b f' l' c' p' i')
  obtain ⟨x, hx⟩ : ∃ x, x = w.heap.size := ⟨_, rfl⟩
  obtain ⟨y, hy⟩ : ∃ y, y = w.heap.size + 1 := ⟨_, rfl⟩
  rw [← hx] at p1
  rw [← hy] at q1
  have x0 : ∀ V : World, V.heap[x]? = some (.cells (rq a f l c p i) 51 (0, 0)) → V.cell? ⟨x, 0, none⟩ = some (.int .i64 b.op) := fun V hV => by simp [World.cell?, hV, rq, h_op]
  have y0 : ∀ V : World, V.heap[y]? = some (.cells (rq b f' l' c' p' i') 51 (0, 0)) → V.cell? ⟨y, 0, none⟩ = some (.int .i64 b.op) := fun V hV => by simp [World.cell?, hV, rq]
  have x20 : ∀ V : World, V.heap[x]? = some (.cells (rq a f l c p i) 51 (0, 0)) → V.cell? ⟨x, 20, none⟩ = some (.int .i64 b.kind) := fun V hV => by simp [World.cell?, hV, rq, h_kind]
  have y20 : ∀ V : World, V.heap[y]? = some (.cells (rq b f' l' c' p' i') 51 (0, 0)) → V.cell? ⟨y, 20, none⟩ = some (.int .i64 b.kind) := fun V hV => by simp [World.cell?, hV, rq]
  have x21 : ∀ V : World, V.heap[x]? = some (.cells (rq a f l c p i) 51 (0, 0)) → V.cell? ⟨x, 21, none⟩ = some (.string b.name) := fun V hV => by simp [World.cell?, hV, rq, h_name]
  have y21 : ∀ V : World, V.heap[y]? = some (.cells (rq b f' l' c' p' i') 51 (0, 0)) → V.cell? ⟨y, 21, none⟩ = some (.string b.name) := fun V hV => by simp [World.cell?, hV, rq]
  have x22 : ∀ V : World, V.heap[x]? = some (.cells (rq a f l c p i) 51 (0, 0)) → V.cell? ⟨x, 22, none⟩ = some (.int .i64 a.version) := fun V hV => by simp [World.cell?, hV, rq]
  have y22 : ∀ V : World, V.heap[y]? = some (.cells (rq b f' l' c' p' i') 51 (0, 0)) → V.cell? ⟨y, 22, none⟩ = some (.int .i64 b.version) := fun V hV => by simp [World.cell?, hV, rq]
  have e22 : (a.version == b.version) = false := by simpa using h_version
  have hS : sameRq a b = false := by simp [sameRq, h_op, h_kind, h_name, h_version]
  have HS := Lib.hid hS
  have HW := Lib.hid hw1
  have B1 := Lib.hid b1
  have P1 := Lib.hid p1
  have Q1 := Lib.hid q1
  have X0 := Lib.hid x0
  have Y0 := Lib.hid y0
  have cx0 := x0 _ p1
  have cy0 := y0 _ q1
  have X20 := Lib.hid x20
  have Y20 := Lib.hid y20
  have cx20 := x20 _ p1
  have cy20 := y20 _ q1
  have X21 := Lib.hid x21
  have Y21 := Lib.hid y21
  have cx21 := x21 _ p1
  have cy21 := y21 _ q1
  have X22 := Lib.hid x22
  have Y22 := Lib.hid y22
  have cx22 := x22 _ p1
  have cy22 := y22 _ q1
  clear hS hw1 b1 p1 q1 hr hq hs h_op h_kind h_name h_version x0 y0 x20 y20 x21 y21 x22 y22
  go_enter Try.func28, Try.ntmps28
  go_upto_region 1 with (fail)
  rw [← HW.out, ← hy, ← hx]
  clear hx hy
  go_wp2
  go_ret
  exact ⟨by rw [HS.out]; rfl, B1.out⟩
set_option maxRecDepth 100000 in
set_option maxHeartbeats 4000000 in
theorem samerq_4 (a b : Rq) (f l c p i f' l' c' p' i' : Sl) (hs : a.ob.fins.length ≤ 1000000 ∧ a.ob.labels.length ≤ 1000000 ∧ a.ob.cidrs.length ≤ 1000000 ∧ a.ob.fams.length ≤ 1000000 ∧ a.ob.ips.length ≤ 1000000) (h_op : a.op = b.op) (h_kind : a.kind = b.kind) (h_name : a.name = b.name) (h_version : a.version = b.version) (h_ob : sameB a.ob b.ob = false) (w : World) (hr : RowsR w a.ob f l c p i) (hq : RowsR w b.ob f' l' c' p' i') :
    Calls Try.prog 28 #[.agg (rq a f l c p i), .agg (rq b f' l' c' p' i')] w fun e w' => e = .returned (.bool (sameRq a b)) ∧ Below w.heap.size w w' := by
  obtain ⟨w1, hw1, b1, p1, q1⟩ := two_rqs w (rq a f l c p i) (rq b f' l' c' p' i')
  obtain ⟨x, hx⟩ : ∃ x, x = w.heap.size := ⟨_, rfl⟩
  obtain ⟨y, hy⟩ : ∃ y, y = w.heap.size + 1 := ⟨_, rfl⟩
  rw [← hx] at p1
  rw [← hy] at q1
  have x0 : ∀ V : World, V.heap[x]? = some (.cells (rq a f l c p i) 51 (0, 0)) → V.cell? ⟨x, 0, none⟩ = some (.int .i64 b.op) := fun V hV => by simp [World.cell?, hV, rq, h_op]
  have y0 : ∀ V : World, V.heap[y]? = some (.cells (rq b f' l' c' p' i') 51 (0, 0)) → V.cell? ⟨y, 0, none⟩ = some (.int .i64 b.op) := fun V hV => by simp [World.cell?, hV, rq]
  have x20 : ∀ V : World, V.heap[x]? = some (.cells (rq a f l c p i) 51 (0, 0)) → V.cell? ⟨x, 20, none⟩ = some (.int .i64 b.kind) := fun V hV => by simp [World.cell?, hV, rq, h_kind]
  have y20 : ∀ V : World, V.heap[y]? = some (.cells (rq b f' l' c' p' i') 51 (0, 0)) → V.cell? ⟨y, 20, none⟩ = some (.int .i64 b.kind) := fun V hV => by simp [World.cell?, hV, rq]
  have x21 : ∀ V : World, V.heap[x]? = some (.cells (rq a f l c p i) 51 (0, 0)) → V.cell? ⟨x, 21, none⟩ = some (.string b.name) := fun V hV => by simp [World.cell?, hV, rq, h_name]
  have y21 : ∀ V : World, V.heap[y]? = some (.cells (rq b f' l' c' p' i') 51 (0, 0)) → V.cell? ⟨y, 21, none⟩ = some (.string b.name) := fun V hV => by simp [World.cell?, hV, rq]
  have x22 : ∀ V : World, V.heap[x]? = some (.cells (rq a f l c p i) 51 (0, 0)) → V.cell? ⟨x, 22, none⟩ = some (.int .i64 b.version) := fun V hV => by simp [World.cell?, hV, rq, h_version]
  have y22 : ∀ V : World, V.heap[y]? = some (.cells (rq b f' l' c' p' i') 51 (0, 0)) → V.cell? ⟨y, 22, none⟩ = some (.int .i64 b.version) := fun V hV => by simp [World.cell?, hV, rq]
  have hS : sameRq a b = false := by simp [sameRq, h_op, h_kind, h_name, h_version, h_ob]
  have HS := Lib.hid hS
  have RA := Lib.hid (hr.below b1)
  have RB := Lib.hid (hq.below b1)
  have HL := Lib.hid hs
  have HO := Lib.hid (show sameB a.ob b.ob = false from h_ob)
  have HW := Lib.hid hw1
  have B1 := Lib.hid b1
  have P1 := Lib.hid p1
  have Q1 := Lib.hid q1
  have X0 := Lib.hid x0
  have Y0 := Lib.hid y0
  have cx0 := x0 _ p1
  have cy0 := y0 _ q1
  have X20 := Lib.hid x20
  have Y20 := Lib.hid y20
  have cx20 := x20 _ p1
  have cy20 := y20 _ q1
  have X21 := Lib.hid x21
  have Y21 := Lib.hid y21
  have cx21 := x21 _ p1
  have cy21 := y21 _ q1
  have X22 := Lib.hid x22
  have Y22 := Lib.hid y22
  have cx22 := x22 _ p1
  have cy22 := y22 _ q1
  clear hS hw1 b1 p1 q1 hr hq hs h_op h_kind h_name h_version h_ob x0 y0 x20 y20 x21 y21 x22 y22
  go_enter Try.func28, Try.ntmps28
  go_upto_region 1 with (fail)
  rw [← HW.out, ← hy, ← hx]
  clear hx hy
  repeat (first | ((refine wp_load_elem (.tmp 32) rfl x 1 rfl ⟨a.ob, f, l, c, p, i⟩ (rq_mid P1.out) ?_); (try simp only [Act.put, List.setIfInBounds_toArray, List.set_cons_zero, List.set_cons_succ])) | ((refine wp_load_elem (.tmp 34) rfl y 1 rfl ⟨b.ob, f', l', c', p', i'⟩ (rq_mid Q1.out) ?_); (try simp only [Act.put, List.setIfInBounds_toArray, List.set_cons_zero, List.set_cons_succ])) | go_values | go_skip | go_guarded | go_step)
  go_wp2_with (fail)
  refine (same_any a.ob b.ob f l c p i f' l' c' p' i' HL.out w1 RA.out RB.out).mono ?_
  rw [HO.out]
  rintro e w2 ⟨rfl, hb2⟩
  have B2 := Lib.hid (B1.out.trans (belowLe B1.out.size hb2))
  have P2 := (hb2.block x (Array.getElem?_eq_some_iff.1 P1.out).1).trans P1.out
  have Q2 := (hb2.block y (Array.getElem?_eq_some_iff.1 Q1.out).1).trans Q1.out
  have dx0 := X0.out _ P2
  have dy0 := Y0.out _ Q2
  have dx20 := X20.out _ P2
  have dy20 := Y20.out _ Q2
  have dx21 := X21.out _ P2
  have dy21 := Y21.out _ Q2
  have dx22 := X22.out _ P2
  have dy22 := Y22.out _ Q2
  clear hb2 P2 Q2 cx0 cy0 cx20 cy20 cx21 cy21 cx22 cy22
  go_wp2
  go_ret
  exact ⟨by rw [HS.out]; rfl, B2.out⟩
set_option maxRecDepth 100000 in
set_option maxHeartbeats 4000000 in
theorem samerq_4t (a b : Rq) (f l c p i f' l' c' p' i' : Sl) (hs : a.ob.fins.length ≤ 1000000 ∧ a.ob.labels.length ≤ 1000000 ∧ a.ob.cidrs.length ≤ 1000000 ∧ a.ob.fams.length ≤ 1000000 ∧ a.ob.ips.length ≤ 1000000) (h_op : a.op = b.op) (h_kind : a.kind = b.kind) (h_name : a.name = b.name) (h_version : a.version = b.version) (h_ob : sameB a.ob b.ob = true) (w : World) (hr : RowsR w a.ob f l c p i) (hq : RowsR w b.ob f' l' c' p' i') :
    Calls Try.prog 28 #[.agg (rq a f l c p i), .agg (rq b f' l' c' p' i')] w fun e w' => e = .returned (.bool (sameRq a b)) ∧ Below w.heap.size w w' := by
  obtain ⟨w1, hw1, b1, p1, q1⟩ := two_rqs w (rq a f l c p i) (rq b f' l' c' p' i')
  obtain ⟨x, hx⟩ : ∃ x, x = w.heap.size := ⟨_, rfl⟩
  obtain ⟨y, hy⟩ : ∃ y, y = w.heap.size + 1 := ⟨_, rfl⟩
  rw [← hx] at p1
  rw [← hy] at q1
  have x0 : ∀ V : World, V.heap[x]? = some (.cells (rq a f l c p i) 51 (0, 0)) → V.cell? ⟨x, 0, none⟩ = some (.int .i64 b.op) := fun V hV => by simp [World.cell?, hV, rq, h_op]
  have y0 : ∀ V : World, V.heap[y]? = some (.cells (rq b f' l' c' p' i') 51 (0, 0)) → V.cell? ⟨y, 0, none⟩ = some (.int .i64 b.op) := fun V hV => by simp [World.cell?, hV, rq]
  have x20 : ∀ V : World, V.heap[x]? = some (.cells (rq a f l c p i) 51 (0, 0)) → V.cell? ⟨x, 20, none⟩ = some (.int .i64 b.kind) := fun V hV => by simp [World.cell?, hV, rq, h_kind]
  have y20 : ∀ V : World, V.heap[y]? = some (.cells (rq b f' l' c' p' i') 51 (0, 0)) → V.cell? ⟨y, 20, none⟩ = some (.int .i64 b.kind) := fun V hV => by simp [World.cell?, hV, rq]
  have x21 : ∀ V : World, V.heap[x]? = some (.cells (rq a f l c p i) 51 (0, 0)) → V.cell? ⟨x, 21, none⟩ = some (.string b.name) := fun V hV => by simp [World.cell?, hV, rq, h_name]
  have y21 : ∀ V : World, V.heap[y]? = some (.cells (rq b f' l' c' p' i') 51 (0, 0)) → V.cell? ⟨y, 21, none⟩ = some (.string b.name) := fun V hV => by simp [World.cell?, hV, rq]
  have x22 : ∀ V : World, V.heap[x]? = some (.cells (rq a f l c p i) 51 (0, 0)) → V.cell? ⟨x, 22, none⟩ = some (.int .i64 b.version) := fun V hV => by simp [World.cell?, hV, rq, h_version]
  have y22 : ∀ V : World, V.heap[y]? = some (.cells (rq b f' l' c' p' i') 51 (0, 0)) → V.cell? ⟨y, 22, none⟩ = some (.int .i64 b.version) := fun V hV => by simp [World.cell?, hV, rq]
  have hS : sameRq a b = true := by simp [sameRq, h_op, h_kind, h_name, h_version, h_ob]
  have HS := Lib.hid hS
  have RA := Lib.hid (hr.below b1)
  have RB := Lib.hid (hq.below b1)
  have HL := Lib.hid hs
  have HO := Lib.hid (show sameB a.ob b.ob = true from h_ob)
  have HW := Lib.hid hw1
  have B1 := Lib.hid b1
  have P1 := Lib.hid p1
  have Q1 := Lib.hid q1
  have X0 := Lib.hid x0
  have Y0 := Lib.hid y0
  have cx0 := x0 _ p1
  have cy0 := y0 _ q1
  have X20 := Lib.hid x20
  have Y20 := Lib.hid y20
  have cx20 := x20 _ p1
  have cy20 := y20 _ q1
  have X21 := Lib.hid x21
  have Y21 := Lib.hid y21
  have cx21 := x21 _ p1
  have cy21 := y21 _ q1
  have X22 := Lib.hid x22
  have Y22 := Lib.hid y22
  have cx22 := x22 _ p1
  have cy22 := y22 _ q1
  clear hS hw1 b1 p1 q1 hr hq hs h_op h_kind h_name h_version h_ob x0 y0 x20 y20 x21 y21 x22 y22
  go_enter Try.func28, Try.ntmps28
  go_upto_region 1 with (fail)
  rw [← HW.out, ← hy, ← hx]
  clear hx hy
  repeat (first | ((refine wp_load_elem (.tmp 32) rfl x 1 rfl ⟨a.ob, f, l, c, p, i⟩ (rq_mid P1.out) ?_); (try simp only [Act.put, List.setIfInBounds_toArray, List.set_cons_zero, List.set_cons_succ])) | ((refine wp_load_elem (.tmp 34) rfl y 1 rfl ⟨b.ob, f', l', c', p', i'⟩ (rq_mid Q1.out) ?_); (try simp only [Act.put, List.setIfInBounds_toArray, List.set_cons_zero, List.set_cons_succ])) | go_values | go_skip | go_guarded | go_step)
  go_wp2_with (fail)
  refine (same_any a.ob b.ob f l c p i f' l' c' p' i' HL.out w1 RA.out RB.out).mono ?_
  rw [HO.out]
  rintro e w2 ⟨rfl, hb2⟩
  have B2 := Lib.hid (B1.out.trans (belowLe B1.out.size hb2))
  have P2 := (hb2.block x (Array.getElem?_eq_some_iff.1 P1.out).1).trans P1.out
  have Q2 := (hb2.block y (Array.getElem?_eq_some_iff.1 Q1.out).1).trans Q1.out
  have dx0 := X0.out _ P2
  have dy0 := Y0.out _ Q2
  have dx20 := X20.out _ P2
  have dy20 := Y20.out _ Q2
  have dx21 := X21.out _ P2
  have dy21 := Y21.out _ Q2
  have dx22 := X22.out _ P2
  have dy22 := Y22.out _ Q2
  clear hb2 P2 Q2 cx0 cy0 cx20 cy20 cx21 cy21 cx22 cy22
  go_wp2
  go_ret
  exact ⟨by rw [HS.out]; rfl, B2.out⟩
theorem samerq_any (a b : Rq) (f l c p i f' l' c' p' i' : Sl) (hs : a.ob.fins.length ≤ 1000000 ∧ a.ob.labels.length ≤ 1000000 ∧ a.ob.cidrs.length ≤ 1000000 ∧ a.ob.fams.length ≤ 1000000 ∧ a.ob.ips.length ≤ 1000000) (w : World) (hr : RowsR w a.ob f l c p i) (hq : RowsR w b.ob f' l' c' p' i') :
    Calls Try.prog 28 #[.agg (rq a f l c p i), .agg (rq b f' l' c' p' i')] w fun e w' => e = .returned (.bool (sameRq a b)) ∧ Below w.heap.size w w' := by
  by_cases h_op : a.op = b.op
  rotate_left
  · exact samerq_0 a b f l c p i f' l' c' p' i' hs h_op w hr hq
  by_cases h_kind : a.kind = b.kind
  rotate_left
  · exact samerq_1 a b f l c p i f' l' c' p' i' hs h_op h_kind w hr hq
  by_cases h_name : a.name = b.name
  rotate_left
  · exact samerq_2 a b f l c p i f' l' c' p' i' hs h_op h_kind h_name w hr hq
  by_cases h_version : a.version = b.version
  rotate_left
  · exact samerq_3 a b f l c p i f' l' c' p' i' hs h_op h_kind h_name h_version w hr hq
  cases h_ob : sameB a.ob b.ob
  · exact samerq_4 a b f l c p i f' l' c' p' i' hs h_op h_kind h_name h_version h_ob w hr hq
  exact samerq_4t a b f l c p i f' l' c' p' i' hs h_op h_kind h_name h_version h_ob w hr hq
set_option maxRecDepth 100000 in
set_option maxHeartbeats 4000000 in
theorem rsamerq_0 (a b : Rq) (f l c p i f' l' c' p' i' : Sl) (hs : a.ob.fins.length ≤ 1000000 ∧ a.ob.labels.length ≤ 1000000 ∧ a.ob.cidrs.length ≤ 1000000 ∧ a.ob.fams.length ≤ 1000000 ∧ a.ob.ips.length ≤ 1000000) (h_op : ¬ a.op = b.op) (w : World) (hr : RowsR w a.ob f l c p i) (hq : RowsR w b.ob f' l' c' p' i') :
    Calls Try.prog 30 #[.agg (rq a f l c p i), .agg (rq b f' l' c' p' i')] w fun e w' => e = .returned (.bool (sameRq a b)) ∧ Below w.heap.size w w' := by
  obtain ⟨w1, hw1, b1, p1, q1⟩ := two_rqs w (rq a f l c p i) (rq b f' l' c' p' i')
  obtain ⟨x, hx⟩ : ∃ x, x = w.heap.size := ⟨_, rfl⟩
  obtain ⟨y, hy⟩ : ∃ y, y = w.heap.size + 1 := ⟨_, rfl⟩
  rw [← hx] at p1
  rw [← hy] at q1
  have x0 : ∀ V : World, V.heap[x]? = some (.cells (rq a f l c p i) 51 (0, 0)) → V.cell? ⟨x, 0, none⟩ = some (.int .i64 a.op) := fun V hV => by simp [World.cell?, hV, rq]
  have y0 : ∀ V : World, V.heap[y]? = some (.cells (rq b f' l' c' p' i') 51 (0, 0)) → V.cell? ⟨y, 0, none⟩ = some (.int .i64 b.op) := fun V hV => by simp [World.cell?, hV, rq]
  have e0 : (a.op == b.op) = false := by simpa using h_op
  have hS : sameRq a b = false := by simp [sameRq, h_op]
  have HS := Lib.hid hS
  have HW := Lib.hid hw1
  have B1 := Lib.hid b1
  have P1 := Lib.hid p1
  have Q1 := Lib.hid q1
  have X0 := Lib.hid x0
  have Y0 := Lib.hid y0
  have cx0 := x0 _ p1
  have cy0 := y0 _ q1
  clear hS hw1 b1 p1 q1 hr hq hs h_op x0 y0
  go_enter Try.func30, Try.ntmps30
  go_upto_region 1 with (fail)
  rw [← HW.out, ← hy, ← hx]
  clear hx hy
  go_wp2
  go_ret
  exact ⟨by rw [HS.out]; rfl, B1.out⟩
set_option maxRecDepth 100000 in
set_option maxHeartbeats 4000000 in
theorem rsamerq_1 (a b : Rq) (f l c p i f' l' c' p' i' : Sl) (hs : a.ob.fins.length ≤ 1000000 ∧ a.ob.labels.length ≤ 1000000 ∧ a.ob.cidrs.length ≤ 1000000 ∧ a.ob.fams.length ≤ 1000000 ∧ a.ob.ips.length ≤ 1000000) (h_op : a.op = b.op) (h_ob : sameB a.ob b.ob = false) (w : World) (hr : RowsR w a.ob f l c p i) (hq : RowsR w b.ob f' l' c' p' i') :
    Calls Try.prog 30 #[.agg (rq a f l c p i), .agg (rq b f' l' c' p' i')] w fun e w' => e = .returned (.bool (sameRq a b)) ∧ Below w.heap.size w w' := by
  obtain ⟨w1, hw1, b1, p1, q1⟩ := two_rqs w (rq a f l c p i) (rq b f' l' c' p' i')
  obtain ⟨x, hx⟩ : ∃ x, x = w.heap.size := ⟨_, rfl⟩
  obtain ⟨y, hy⟩ : ∃ y, y = w.heap.size + 1 := ⟨_, rfl⟩
  rw [← hx] at p1
  rw [← hy] at q1
  have x0 : ∀ V : World, V.heap[x]? = some (.cells (rq a f l c p i) 51 (0, 0)) → V.cell? ⟨x, 0, none⟩ = some (.int .i64 b.op) := fun V hV => by simp [World.cell?, hV, rq, h_op]
  have y0 : ∀ V : World, V.heap[y]? = some (.cells (rq b f' l' c' p' i') 51 (0, 0)) → V.cell? ⟨y, 0, none⟩ = some (.int .i64 b.op) := fun V hV => by simp [World.cell?, hV, rq]
  have hS : sameRq a b = false := by simp [sameRq, h_op, h_ob]
  have HS := Lib.hid hS
  have RA := Lib.hid (hr.below b1)
  have RB := Lib.hid (hq.below b1)
  have HL := Lib.hid hs
  have HO := Lib.hid (show sameB a.ob b.ob = false from h_ob)
  have HW := Lib.hid hw1
  have B1 := Lib.hid b1
  have P1 := Lib.hid p1
  have Q1 := Lib.hid q1
  have X0 := Lib.hid x0
  have Y0 := Lib.hid y0
  have cx0 := x0 _ p1
  have cy0 := y0 _ q1
  clear hS hw1 b1 p1 q1 hr hq hs h_op h_ob x0 y0
  go_enter Try.func30, Try.ntmps30
  go_upto_region 1 with (fail)
  rw [← HW.out, ← hy, ← hx]
  clear hx hy
  repeat (first | ((refine wp_load_elem (.tmp 11) rfl x 1 rfl ⟨a.ob, f, l, c, p, i⟩ (rq_mid P1.out) ?_); (try simp only [Act.put, List.setIfInBounds_toArray, List.set_cons_zero, List.set_cons_succ])) | ((refine wp_load_elem (.tmp 13) rfl y 1 rfl ⟨b.ob, f', l', c', p', i'⟩ (rq_mid Q1.out) ?_); (try simp only [Act.put, List.setIfInBounds_toArray, List.set_cons_zero, List.set_cons_succ])) | go_values | go_skip | go_guarded | go_step)
  go_wp2_with (fail)
  refine (same14_any a.ob b.ob f l c p i f' l' c' p' i' HL.out w1 RA.out RB.out).mono ?_
  rw [HO.out]
  rintro e w2 ⟨rfl, hb2⟩
  have B2 := Lib.hid (B1.out.trans (belowLe B1.out.size hb2))
  have P2 := (hb2.block x (Array.getElem?_eq_some_iff.1 P1.out).1).trans P1.out
  have Q2 := (hb2.block y (Array.getElem?_eq_some_iff.1 Q1.out).1).trans Q1.out
  have dx0 := X0.out _ P2
  have dy0 := Y0.out _ Q2
  clear hb2 P2 Q2 cx0 cy0
  go_wp2
  go_ret
  exact ⟨by rw [HS.out]; rfl, B2.out⟩
set_option maxRecDepth 100000 in
set_option maxHeartbeats 4000000 in
theorem rsamerq_2 (a b : Rq) (f l c p i f' l' c' p' i' : Sl) (hs : a.ob.fins.length ≤ 1000000 ∧ a.ob.labels.length ≤ 1000000 ∧ a.ob.cidrs.length ≤ 1000000 ∧ a.ob.fams.length ≤ 1000000 ∧ a.ob.ips.length ≤ 1000000) (h_op : a.op = b.op) (h_ob : sameB a.ob b.ob = true) (h_kind : ¬ a.kind = b.kind) (w : World) (hr : RowsR w a.ob f l c p i) (hq : RowsR w b.ob f' l' c' p' i') :
    Calls Try.prog 30 #[.agg (rq a f l c p i), .agg (rq b f' l' c' p' i')] w fun e w' => e = .returned (.bool (sameRq a b)) ∧ Below w.heap.size w w' := by
  obtain ⟨w1, hw1, b1, p1, q1⟩ := two_rqs w (rq a f l c p i) (rq b f' l' c' p' i')
  obtain ⟨x, hx⟩ : ∃ x, x = w.heap.size := ⟨_, rfl⟩
  obtain ⟨y, hy⟩ : ∃ y, y = w.heap.size + 1 := ⟨_, rfl⟩
  rw [← hx] at p1
  rw [← hy] at q1
  have x0 : ∀ V : World, V.heap[x]? = some (.cells (rq a f l c p i) 51 (0, 0)) → V.cell? ⟨x, 0, none⟩ = some (.int .i64 b.op) := fun V hV => by simp [World.cell?, hV, rq, h_op]
  have y0 : ∀ V : World, V.heap[y]? = some (.cells (rq b f' l' c' p' i') 51 (0, 0)) → V.cell? ⟨y, 0, none⟩ = some (.int .i64 b.op) := fun V hV => by simp [World.cell?, hV, rq]
  have x20 : ∀ V : World, V.heap[x]? = some (.cells (rq a f l c p i) 51 (0, 0)) → V.cell? ⟨x, 20, none⟩ = some (.int .i64 a.kind) := fun V hV => by simp [World.cell?, hV, rq]
  have y20 : ∀ V : World, V.heap[y]? = some (.cells (rq b f' l' c' p' i') 51 (0, 0)) → V.cell? ⟨y, 20, none⟩ = some (.int .i64 b.kind) := fun V hV => by simp [World.cell?, hV, rq]
  have e20 : (a.kind == b.kind) = false := by simpa using h_kind
  have hS : sameRq a b = false := by simp [sameRq, h_op, h_ob, h_kind]
  have HS := Lib.hid hS
  have RA := Lib.hid (hr.below b1)
  have RB := Lib.hid (hq.below b1)
  have HL := Lib.hid hs
  have HO := Lib.hid (show sameB a.ob b.ob = true from h_ob)
  have HW := Lib.hid hw1
  have B1 := Lib.hid b1
  have P1 := Lib.hid p1
  have Q1 := Lib.hid q1
  have X0 := Lib.hid x0
  have Y0 := Lib.hid y0
  have cx0 := x0 _ p1
  have cy0 := y0 _ q1
  have X20 := Lib.hid x20
  have Y20 := Lib.hid y20
  have cx20 := x20 _ p1
  have cy20 := y20 _ q1
  clear hS hw1 b1 p1 q1 hr hq hs h_op h_ob h_kind x0 y0 x20 y20
  go_enter Try.func30, Try.ntmps30
  go_upto_region 1 with (fail)
  rw [← HW.out, ← hy, ← hx]
  clear hx hy
  repeat (first | ((refine wp_load_elem (.tmp 11) rfl x 1 rfl ⟨a.ob, f, l, c, p, i⟩ (rq_mid P1.out) ?_); (try simp only [Act.put, List.setIfInBounds_toArray, List.set_cons_zero, List.set_cons_succ])) | ((refine wp_load_elem (.tmp 13) rfl y 1 rfl ⟨b.ob, f', l', c', p', i'⟩ (rq_mid Q1.out) ?_); (try simp only [Act.put, List.setIfInBounds_toArray, List.set_cons_zero, List.set_cons_succ])) | go_values | go_skip | go_guarded | go_step)
  go_wp2_with (fail)
  refine (same14_any a.ob b.ob f l c p i f' l' c' p' i' HL.out w1 RA.out RB.out).mono ?_
  rw [HO.out]
  rintro e w2 ⟨rfl, hb2⟩
  have B2 := Lib.hid (B1.out.trans (belowLe B1.out.size hb2))
  have P2 := (hb2.block x (Array.getElem?_eq_some_iff.1 P1.out).1).trans P1.out
  have Q2 := (hb2.block y (Array.getElem?_eq_some_iff.1 Q1.out).1).trans Q1.out
  have dx0 := X0.out _ P2
  have dy0 := Y0.out _ Q2
  have dx20 := X20.out _ P2
  have dy20 := Y20.out _ Q2
  clear hb2 P2 Q2 cx0 cy0 cx20 cy20
  go_wp2
  go_ret
  exact ⟨by rw [HS.out]; rfl, B2.out⟩
set_option maxRecDepth 100000 in
set_option maxHeartbeats 4000000 in
theorem rsamerq_3 (a b : Rq) (f l c p i f' l' c' p' i' : Sl) (hs : a.ob.fins.length ≤ 1000000 ∧ a.ob.labels.length ≤ 1000000 ∧ a.ob.cidrs.length ≤ 1000000 ∧ a.ob.fams.length ≤ 1000000 ∧ a.ob.ips.length ≤ 1000000) (h_op : a.op = b.op) (h_ob : sameB a.ob b.ob = true) (h_kind : a.kind = b.kind) (h_name : ¬ a.name = b.name) (w : World) (hr : RowsR w a.ob f l c p i) (hq : RowsR w b.ob f' l' c' p' i') :
    Calls Try.prog 30 #[.agg (rq a f l c p i), .agg (rq b f' l' c' p' i')] w fun e w' => e = .returned (.bool (sameRq a b)) ∧ Below w.heap.size w w' := by
  obtain ⟨w1, hw1, b1, p1, q1⟩ := two_rqs w (rq a f l c p i) (rq b f' l' c' p' i')
  obtain ⟨x, hx⟩ : ∃ x, x = w.heap.size := ⟨_, rfl⟩
  obtain ⟨y, hy⟩ : ∃ y, y = w.heap.size + 1 := ⟨_, rfl⟩
  rw [← hx] at p1
  rw [← hy] at q1
  have x0 : ∀ V : World, V.heap[x]? = some (.cells (rq a f l c p i) 51 (0, 0)) → V.cell? ⟨x, 0, none⟩ = some (.int .i64 b.op) := fun V hV => by simp [World.cell?, hV, rq, h_op]
  have y0 : ∀ V : World, V.heap[y]? = some (.cells (rq b f' l' c' p' i') 51 (0, 0)) → V.cell? ⟨y, 0, none⟩ = some (.int .i64 b.op) := fun V hV => by simp [World.cell?, hV, rq]
  have x20 : ∀ V : World, V.heap[x]? = some (.cells (rq a f l c p i) 51 (0, 0)) → V.cell? ⟨x, 20, none⟩ = some (.int .i64 b.kind) := fun V hV => by simp [World.cell?, hV, rq, h_kind]
  have y20 : ∀ V : World, V.heap[y]? = some (.cells (rq b f' l' c' p' i') 51 (0, 0)) → V.cell? ⟨y, 20, none⟩ = some (.int .i64 b.kind) := fun V hV => by simp [World.cell?, hV, rq]
  have x21 : ∀ V : World, V.heap[x]? = some (.cells (rq a f l c p i) 51 (0, 0)) → V.cell? ⟨x, 21, none⟩ = some (.string a.name) := fun V hV => by simp [World.cell?, hV, rq]
  have y21 : ∀ V : World, V.heap[y]? = some (.cells (rq b f' l' c' p' i') 51 (0, 0)) → V.cell? ⟨y, 21, none⟩ = some (.string b.name) := fun V hV => by simp [World.cell?, hV, rq]
  have e21 : (a.name.toList == b.name.toList) = false := str_ne h_name
  have hS : sameRq a b = false := by simp [sameRq, h_op, h_ob, h_kind, h_name]
  have HS := Lib.hid hS
  have RA := Lib.hid (hr.below b1)
  have RB := Lib.hid (hq.below b1)
  have HL := Lib.hid hs
  have HO := Lib.hid (show sameB a.ob b.ob = true from h_ob)
  have HW := Lib.hid hw1
  have B1 := Lib.hid b1
  have P1 := Lib.hid p1
  have Q1 := Lib.hid q1
  have X0 := Lib.hid x0
  have Y0 := Lib.hid y0
  have cx0 := x0 _ p1
  have cy0 := y0 _ q1
  have X20 := Lib.hid x20
  have Y20 := Lib.hid y20
  have cx20 := x20 _ p1
  have cy20 := y20 _ q1
  have X21 := Lib.hid x21
  have Y21 := Lib.hid y21
  have cx21 := x21 _ p1
  have cy21 := y21 _ q1
  clear hS hw1 b1 p1 q1 hr hq hs h_op h_ob h_kind h_name x0 y0 x20 y20 x21 y21
  go_enter Try.func30, Try.ntmps30
  go_upto_region 1 with (fail)
  rw [← HW.out, ← hy, ← hx]
  clear hx hy
  repeat (first | ((refine wp_load_elem (.tmp 11) rfl x 1 rfl ⟨a.ob, f, l, c, p, i⟩ (rq_mid P1.out) ?_); (try simp only [Act.put, List.setIfInBounds_toArray, List.set_cons_zero, List.set_cons_succ])) | ((refine wp_load_elem (.tmp 13) rfl y 1 rfl ⟨b.ob, f', l', c', p', i'⟩ (rq_mid Q1.out) ?_); (try simp only [Act.put, List.setIfInBounds_toArray, List.set_cons_zero, List.set_cons_succ])) | go_values | go_skip | go_guarded | go_step)
  go_wp2_with (fail)
  refine (same14_any a.ob b.ob f l c p i f' l' c' p' i' HL.out w1 RA.out RB.out).mono ?_
  rw [HO.out]
  rintro e w2 ⟨rfl, hb2⟩
  have B2 := Lib.hid (B1.out.trans (belowLe B1.out.size hb2))
  have P2 := (hb2.block x (Array.getElem?_eq_some_iff.1 P1.out).1).trans P1.out
  have Q2 := (hb2.block y (Array.getElem?_eq_some_iff.1 Q1.out).1).trans Q1.out
  have dx0 := X0.out _ P2
  have dy0 := Y0.out _ Q2
  have dx20 := X20.out _ P2
  have dy20 := Y20.out _ Q2
  have dx21 := X21.out _ P2
  have dy21 := Y21.out _ Q2
  clear hb2 P2 Q2 cx0 cy0 cx20 cy20 cx21 cy21
  go_wp2
  go_ret
  exact ⟨by rw [HS.out]; rfl, B2.out⟩
set_option maxRecDepth 100000 in
set_option maxHeartbeats 4000000 in
theorem rsamerq_4 (a b : Rq) (f l c p i f' l' c' p' i' : Sl) (hs : a.ob.fins.length ≤ 1000000 ∧ a.ob.labels.length ≤ 1000000 ∧ a.ob.cidrs.length ≤ 1000000 ∧ a.ob.fams.length ≤ 1000000 ∧ a.ob.ips.length ≤ 1000000) (h_op : a.op = b.op) (h_ob : sameB a.ob b.ob = true) (h_kind : a.kind = b.kind) (h_name : a.name = b.name) (h_version : ¬ a.version = b.version) (w : World) (hr : RowsR w a.ob f l c p i) (hq : RowsR w b.ob f' l' c' p' i') :
    Calls Try.prog 30 #[.agg (rq a f l c p i), .agg (rq b f' l' c' p' i')] w fun e w' => e = .returned (.bool (sameRq a b)) ∧ Below w.heap.size w w' := by
  obtain ⟨w1, hw1, b1, p1, q1⟩ := two_rqs w (rq a f l c p i) (rq b f' l' c' p' i')
  obtain ⟨x, hx⟩ : ∃ x, x = w.heap.size := ⟨_, rfl⟩
  obtain ⟨y, hy⟩ : ∃ y, y = w.heap.size + 1 := ⟨_, rfl⟩
  rw [← hx] at p1
  rw [← hy] at q1
  have x0 : ∀ V : World, V.heap[x]? = some (.cells (rq a f l c p i) 51 (0, 0)) → V.cell? ⟨x, 0, none⟩ = some (.int .i64 b.op) := fun V hV => by simp [World.cell?, hV, rq, h_op]
  have y0 : ∀ V : World, V.heap[y]? = some (.cells (rq b f' l' c' p' i') 51 (0, 0)) → V.cell? ⟨y, 0, none⟩ = some (.int .i64 b.op) := fun V hV => by simp [World.cell?, hV, rq]
  have x20 : ∀ V : World, V.heap[x]? = some (.cells (rq a f l c p i) 51 (0, 0)) → V.cell? ⟨x, 20, none⟩ = some (.int .i64 b.kind) := fun V hV => by simp [World.cell?, hV, rq, h_kind]
  have y20 : ∀ V : World, V.heap[y]? = some (.cells (rq b f' l' c' p' i') 51 (0, 0)) → V.cell? ⟨y, 20, none⟩ = some (.int .i64 b.kind) := fun V hV => by simp [World.cell?, hV, rq]
  have x21 : ∀ V : World, V.heap[x]? = some (.cells (rq a f l c p i) 51 (0, 0)) → V.cell? ⟨x, 21, none⟩ = some (.string b.name) := fun V hV => by simp [World.cell?, hV, rq, h_name]
  have y21 : ∀ V : World, V.heap[y]? = some (.cells (rq b f' l' c' p' i') 51 (0, 0)) → V.cell? ⟨y, 21, none⟩ = some (.string b.name) := fun V hV => by simp [World.cell?, hV, rq]
  have x22 : ∀ V : World, V.heap[x]? = some (.cells (rq a f l c p i) 51 (0, 0)) → V.cell? ⟨x, 22, none⟩ = some (.int .i64 a.version) := fun V hV => by simp [World.cell?, hV, rq]
  have y22 : ∀ V : World, V.heap[y]? = some (.cells (rq b f' l' c' p' i') 51 (0, 0)) → V.cell? ⟨y, 22, none⟩ = some (.int .i64 b.version) := fun V hV => by simp [World.cell?, hV, rq]
  have e22 : (a.version == b.version) = false := by simpa using h_version
  have hS : sameRq a b = false := by simp [sameRq, h_op, h_ob, h_kind, h_name, h_version]
  have HS := Lib.hid hS
  have RA := Lib.hid (hr.below b1)
  have RB := Lib.hid (hq.below b1)
  have HL := Lib.hid hs
  have HO := Lib.hid (show sameB a.ob b.ob = true from h_ob)
  have HW := Lib.hid hw1
  have B1 := Lib.hid b1
  have P1 := Lib.hid p1
  have Q1 := Lib.hid q1
  have X0 := Lib.hid x0
  have Y0 := Lib.hid y0
  have cx0 := x0 _ p1
  have cy0 := y0 _ q1
  have X20 := Lib.hid x20
  have Y20 := Lib.hid y20
  have cx20 := x20 _ p1
  have cy20 := y20 _ q1
  have X21 := Lib.hid x21
  have Y21 := Lib.hid y21
  have cx21 := x21 _ p1
  have cy21 := y21 _ q1
  have X22 := Lib.hid x22
  have Y22 := Lib.hid y22
  have cx22 := x22 _ p1
  have cy22 := y22 _ q1
  clear hS hw1 b1 p1 q1 hr hq hs h_op h_ob h_kind h_name h_version x0 y0 x20 y20 x21 y21 x22 y22
  go_enter Try.func30, Try.ntmps30
  go_upto_region 1 with (fail)
  rw [← HW.out, ← hy, ← hx]
  clear hx hy
  repeat (first | ((refine wp_load_elem (.tmp 11) rfl x 1 rfl ⟨a.ob, f, l, c, p, i⟩ (rq_mid P1.out) ?_); (try simp only [Act.put, List.setIfInBounds_toArray, List.set_cons_zero, List.set_cons_succ])) | ((refine wp_load_elem (.tmp 13) rfl y 1 rfl ⟨b.ob, f', l', c', p', i'⟩ (rq_mid Q1.out) ?_); (try simp only [Act.put, List.setIfInBounds_toArray, List.set_cons_zero, List.set_cons_succ])) | go_values | go_skip | go_guarded | go_step)
  go_wp2_with (fail)
  refine (same14_any a.ob b.ob f l c p i f' l' c' p' i' HL.out w1 RA.out RB.out).mono ?_
  rw [HO.out]
  rintro e w2 ⟨rfl, hb2⟩
  have B2 := Lib.hid (B1.out.trans (belowLe B1.out.size hb2))
  have P2 := (hb2.block x (Array.getElem?_eq_some_iff.1 P1.out).1).trans P1.out
  have Q2 := (hb2.block y (Array.getElem?_eq_some_iff.1 Q1.out).1).trans Q1.out
  have dx0 := X0.out _ P2
  have dy0 := Y0.out _ Q2
  have dx20 := X20.out _ P2
  have dy20 := Y20.out _ Q2
  have dx21 := X21.out _ P2
  have dy21 := Y21.out _ Q2
  have dx22 := X22.out _ P2
  have dy22 := Y22.out _ Q2
  clear hb2 P2 Q2 cx0 cy0 cx20 cy20 cx21 cy21 cx22 cy22
  go_wp2
  go_ret
  exact ⟨by rw [HS.out]; rfl, B2.out⟩
set_option maxRecDepth 100000 in
set_option maxHeartbeats 4000000 in
theorem rsamerq_4t (a b : Rq) (f l c p i f' l' c' p' i' : Sl) (hs : a.ob.fins.length ≤ 1000000 ∧ a.ob.labels.length ≤ 1000000 ∧ a.ob.cidrs.length ≤ 1000000 ∧ a.ob.fams.length ≤ 1000000 ∧ a.ob.ips.length ≤ 1000000) (h_op : a.op = b.op) (h_ob : sameB a.ob b.ob = true) (h_kind : a.kind = b.kind) (h_name : a.name = b.name) (h_version : a.version = b.version) (w : World) (hr : RowsR w a.ob f l c p i) (hq : RowsR w b.ob f' l' c' p' i') :
    Calls Try.prog 30 #[.agg (rq a f l c p i), .agg (rq b f' l' c' p' i')] w fun e w' => e = .returned (.bool (sameRq a b)) ∧ Below w.heap.size w w' := by
  obtain ⟨w1, hw1, b1, p1, q1⟩ := two_rqs w (rq a f l c p i) (rq b f' l' c' p' i')
  obtain ⟨x, hx⟩ : ∃ x, x = w.heap.size := ⟨_, rfl⟩
  obtain ⟨y, hy⟩ : ∃ y, y = w.heap.size + 1 := ⟨_, rfl⟩
  rw [← hx] at p1
  rw [← hy] at q1
  have x0 : ∀ V : World, V.heap[x]? = some (.cells (rq a f l c p i) 51 (0, 0)) → V.cell? ⟨x, 0, none⟩ = some (.int .i64 b.op) := fun V hV => by simp [World.cell?, hV, rq, h_op]
  have y0 : ∀ V : World, V.heap[y]? = some (.cells (rq b f' l' c' p' i') 51 (0, 0)) → V.cell? ⟨y, 0, none⟩ = some (.int .i64 b.op) := fun V hV => by simp [World.cell?, hV, rq]
  have x20 : ∀ V : World, V.heap[x]? = some (.cells (rq a f l c p i) 51 (0, 0)) → V.cell? ⟨x, 20, none⟩ = some (.int .i64 b.kind) := fun V hV => by simp [World.cell?, hV, rq, h_kind]
  have y20 : ∀ V : World, V.heap[y]? = some (.cells (rq b f' l' c' p' i') 51 (0, 0)) → V.cell? ⟨y, 20, none⟩ = some (.int .i64 b.kind) := fun V hV => by simp [World.cell?, hV, rq]
  have x21 : ∀ V : World, V.heap[x]? = some (.cells (rq a f l c p i) 51 (0, 0)) → V.cell? ⟨x, 21, none⟩ = some (.string b.name) := fun V hV => by simp [World.cell?, hV, rq, h_name]
  have y21 : ∀ V : World, V.heap[y]? = some (.cells (rq b f' l' c' p' i') 51 (0, 0)) → V.cell? ⟨y, 21, none⟩ = some (.string b.name) := fun V hV => by simp [World.cell?, hV, rq]
  have x22 : ∀ V : World, V.heap[x]? = some (.cells (rq a f l c p i) 51 (0, 0)) → V.cell? ⟨x, 22, none⟩ = some (.int .i64 b.version) := fun V hV => by simp [World.cell?, hV, rq, h_version]
  have y22 : ∀ V : World, V.heap[y]? = some (.cells (rq b f' l' c' p' i') 51 (0, 0)) → V.cell? ⟨y, 22, none⟩ = some (.int .i64 b.version) := fun V hV => by simp [World.cell?, hV, rq]
  have hS : sameRq a b = true := by simp [sameRq, h_op, h_ob, h_kind, h_name, h_version]
  have HS := Lib.hid hS
  have RA := Lib.hid (hr.below b1)
  have RB := Lib.hid (hq.below b1)
  have HL := Lib.hid hs
  have HO := Lib.hid (show sameB a.ob b.ob = true from h_ob)
  have HW := Lib.hid hw1
  have B1 := Lib.hid b1
  have P1 := Lib.hid p1
  have Q1 := Lib.hid q1
  have X0 := Lib.hid x0
  have Y0 := Lib.hid y0
  have cx0 := x0 _ p1
  have cy0 := y0 _ q1
  have X20 := Lib.hid x20
  have Y20 := Lib.hid y20
  have cx20 := x20 _ p1
  have cy20 := y20 _ q1
  have X21 := Lib.hid x21
  have Y21 := Lib.hid y21
  have cx21 := x21 _ p1
  have cy21 := y21 _ q1
  have X22 := Lib.hid x22
  have Y22 := Lib.hid y22
  have cx22 := x22 _ p1
  have cy22 := y22 _ q1
  clear hS hw1 b1 p1 q1 hr hq hs h_op h_ob h_kind h_name h_version x0 y0 x20 y20 x21 y21 x22 y22
  go_enter Try.func30, Try.ntmps30
  go_upto_region 1 with (fail)
  rw [← HW.out, ← hy, ← hx]
  clear hx hy
  repeat (first | ((refine wp_load_elem (.tmp 11) rfl x 1 rfl ⟨a.ob, f, l, c, p, i⟩ (rq_mid P1.out) ?_); (try simp only [Act.put, List.setIfInBounds_toArray, List.set_cons_zero, List.set_cons_succ])) | ((refine wp_load_elem (.tmp 13) rfl y 1 rfl ⟨b.ob, f', l', c', p', i'⟩ (rq_mid Q1.out) ?_); (try simp only [Act.put, List.setIfInBounds_toArray, List.set_cons_zero, List.set_cons_succ])) | go_values | go_skip | go_guarded | go_step)
  go_wp2_with (fail)
  refine (same14_any a.ob b.ob f l c p i f' l' c' p' i' HL.out w1 RA.out RB.out).mono ?_
  rw [HO.out]
  rintro e w2 ⟨rfl, hb2⟩
  have B2 := Lib.hid (B1.out.trans (belowLe B1.out.size hb2))
  have P2 := (hb2.block x (Array.getElem?_eq_some_iff.1 P1.out).1).trans P1.out
  have Q2 := (hb2.block y (Array.getElem?_eq_some_iff.1 Q1.out).1).trans Q1.out
  have dx0 := X0.out _ P2
  have dy0 := Y0.out _ Q2
  have dx20 := X20.out _ P2
  have dy20 := Y20.out _ Q2
  have dx21 := X21.out _ P2
  have dy21 := Y21.out _ Q2
  have dx22 := X22.out _ P2
  have dy22 := Y22.out _ Q2
  clear hb2 P2 Q2 cx0 cy0 cx20 cy20 cx21 cy21 cx22 cy22
  go_wp2
  go_ret
  exact ⟨by rw [HS.out]; rfl, B2.out⟩
theorem rsamerq_any (a b : Rq) (f l c p i f' l' c' p' i' : Sl) (hs : a.ob.fins.length ≤ 1000000 ∧ a.ob.labels.length ≤ 1000000 ∧ a.ob.cidrs.length ≤ 1000000 ∧ a.ob.fams.length ≤ 1000000 ∧ a.ob.ips.length ≤ 1000000) (w : World) (hr : RowsR w a.ob f l c p i) (hq : RowsR w b.ob f' l' c' p' i') :
    Calls Try.prog 30 #[.agg (rq a f l c p i), .agg (rq b f' l' c' p' i')] w fun e w' => e = .returned (.bool (sameRq a b)) ∧ Below w.heap.size w w' := by
  by_cases h_op : a.op = b.op
  rotate_left
  · exact rsamerq_0 a b f l c p i f' l' c' p' i' hs h_op w hr hq
  cases h_ob : sameB a.ob b.ob
  · exact rsamerq_1 a b f l c p i f' l' c' p' i' hs h_op h_ob w hr hq
  by_cases h_kind : a.kind = b.kind
  rotate_left
  · exact rsamerq_2 a b f l c p i f' l' c' p' i' hs h_op h_ob h_kind w hr hq
  by_cases h_name : a.name = b.name
  rotate_left
  · exact rsamerq_3 a b f l c p i f' l' c' p' i' hs h_op h_ob h_kind h_name w hr hq
  by_cases h_version : a.version = b.version
  rotate_left
  · exact rsamerq_4 a b f l c p i f' l' c' p' i' hs h_op h_ob h_kind h_name h_version w hr hq
  exact rsamerq_4t a b f l c p i f' l' c' p' i' hs h_op h_ob h_kind h_name h_version w hr hq
end Go.Proofs.Ytolndeolehkjoaa
