/- The walks of begin and awake. -/
import Derived.Test.YthmknlflgajnpaaQue6
namespace Go.Proofs.Ythmknlflgajnpaa
open Go.RowKit
def St0 (base top : Int) : St := ⟨base, top, 0, [], [], fun _ => []⟩
set_option maxRecDepth 100000 in
set_option maxHeartbeats 1000000 in
theorem begin_any (base top : Int) (w : World) (h : 1 ≤ base ∧ base ≤ top ∧ top ≤ 1048576) :
    Calls Try.prog 8 #[.int .i64 base, .int .i64 top] w fun e w' => ∃ qb d w1, e = .returned (.tuple #[.pointer (some ⟨qb, 0, none⟩), .pointer (some ⟨w1.heap.size, 0, none⟩), .bool true]) ∧ Inv w.heap.size qb (St0 base top) d w1 ∧ Below w.heap.size w w1 ∧ w' = w1.alloc (.cells #[.int .i64 base, .int .i64 top, .int .i64 0, .slice none 0 0, .slice none 0 0, .slice none 0 0, .slice none 0 0, .slice none 0 0] 50) := by
  go_enter Try.func8, Try.ntmps8
  go_wp2_with (go_at_call 26; refine (new_any base top _ h).mono ?_; rintro e w1 ⟨qb, d, rfl, hI1, hb1⟩)
  go_ret3
  exact ⟨qb, d, w1, rfl, hI1, hb1, rfl⟩
/-- a block that is none of the queue's holds a name -/
structure At (qb : Nat) (d : QD) (w : World) (A : Nat) (r : Ref) : Prop where
  lt : A < w.heap.size
  off : ¬ Foot qb d A
  is : w.heap[A]? = some (.cells #[.int .i64 r.kind, .string r.name] 30 (0, 0))
theorem At.cell0 {qb : Nat} {d : QD} {w : World} {A : Nat} {r : Ref} (h : At qb d w A r) : w.cell? ⟨A, 0, none⟩ = some (.int .i64 r.kind) := by simp [World.cell?, h.is]
theorem At.cell1 {qb : Nat} {d : QD} {w : World} {A : Nat} {r : Ref} (h : At qb d w A r) : w.cell? ⟨A, 1, none⟩ = some (.string r.name) := by simp [World.cell?, h.is]
theorem At.below {qb : Nat} {d : QD} {w w1 : World} {A : Nat} {r : Ref} (h : At qb d w A r) (hb : Below w.heap.size w w1) : At qb d w1 A r := ⟨Nat.lt_of_lt_of_le h.lt hb.size, h.off, (hb.block A h.lt).trans h.is⟩
theorem At.new {B qb : Nat} {s : St} {d : QD} {w : World} (h : Inv B qb s d w) (r : Ref) : At qb d (w.alloc (.cells #[.int .i64 r.kind, .string r.name] 30)) w.heap.size r :=
  ⟨by simp, fun hf => Nat.lt_irrefl _ (h.foot_lt hf), G.heap_new _ _⟩
theorem At.step {qb : Nat} {d d' : QD} {w w' : World} {A : Nat} {r : Ref} (h : At qb d w A r) (hf : ∀ j, Foot qb d' j → Foot qb d j ∨ w.heap.size ≤ j) (hF : Fr (Foot qb d) w w') : At qb d' w' A r :=
  ⟨Nat.lt_of_lt_of_le h.lt hF.size, fun hx => by rcases hf A hx with h1 | h1; exact h.off h1; exact Nat.lt_irrefl _ (Nat.lt_of_lt_of_le h.lt h1), (hF.block A h.lt h.off).trans h.is⟩
theorem Inv.fr_below {B qb : Nat} {s : St} {d : QD} {w0 w w' : World} (h : Inv B qb s d w) (hb : Below B w0 w) (hF : Fr (Foot qb d) w w') : Below B w0 w' :=
  Fr.below hb (Nat.le_trans h.hB (Nat.le_of_lt h.lt)) hF (fun _ hj => h.foot_B hj)
/-- a queue that was made behind a world -/
def Live (w0 : World) (qb : Nat) (s : St) (d : QD) (w : World) : Prop := Inv w0.heap.size qb s d w ∧ Below w0.heap.size w0 w
theorem Live.below {w0 w w1 : World} {qb : Nat} {s : St} {d : QD} (h : Live w0 qb s d w) (hb : Below w.heap.size w w1) : Live w0 qb s d w1 :=
  ⟨h.1.below hb, h.2.trans ⟨hb.os, hb.tape, hb.output, hb.size, fun j hj => hb.block j (Nat.lt_of_lt_of_le hj (Nat.le_trans h.1.hB (Nat.le_of_lt h.1.lt)))⟩⟩
theorem Live.alloc {w0 w : World} {qb : Nat} {s : St} {d : QD} (h : Live w0 qb s d w) (o : Obj) : Live w0 qb s d (w.alloc o) := h.below ((Below.refl _ _).alloc (Nat.le_refl _) _)
theorem Live.step {w0 w w' : World} {qb : Nat} {s s' : St} {d : QD} (h : Live w0 qb s d w) (k : Step w0.heap.size qb d w s' w') :
    ∃ d', Live w0 qb s' d' w' ∧ w.heap.size ≤ w'.heap.size ∧ (∀ A r, At qb d w A r → At qb d' w' A r) ∧ (∀ A, A < w.heap.size → ¬ Foot qb d A → ¬ Foot qb d' A ∧ w'.heap[A]? = w.heap[A]?) := by
  obtain ⟨d', h1, h2, h3⟩ := k
  refine ⟨d', ⟨h1, h.1.fr_below h.2 h3⟩, h3.size, fun A r hA => hA.step h2 h3, fun A hA hf => ⟨fun hx => ?_, h3.block A hA hf⟩⟩
  rcases h2 A hx with h4 | h4
  · exact hf h4
  · omega
theorem get_is {x : Value} {b : Bool} (B qb : Nat) (s : St) (d : QD) (w : World) (hr : getR s = (x, b)) (h : Inv B qb s d w) (hl : s.line.length ≤ 1000000) :
    Calls Try.prog 11 #[.pointer (some ⟨qb, 0, none⟩)] w fun e w' => e = .returned (.tuple #[x, .bool b]) ∧ Step B qb d w (getS s) w' := by
  have := get_any B qb s d w h hl
  rw [hr] at this
  exact this
def exA : Ref := ⟨1, ⟨#[97]⟩⟩
def ex1 : St := addS (St0 1 8) exA
def ex2 : St := addS ex1 exA
def ex3 : St := getS ex2
def ex4 : St := addS ex3 exA
def ex5 : St := getS ex4
def ex6 : St := doneS ex5 exA
def ex7 : St := getS ex6
set_option maxRecDepth 100000 in
set_option maxHeartbeats 4000000 in
theorem awake_any (w : World) : Calls Try.prog 7 #[] w fun e w' => e = .returned (.bool true) ∧ Below w.heap.size w w' := by
  have r2 : getR ex2 = (.agg #[.int .i64 1, .string ⟨#[97]⟩], true) := by kernel_rfl
  have r4 : getR ex4 = (.agg #[.int .i64 0, .string ⟨#[]⟩], false) := by kernel_rfl
  have r6 : getR ex6 = (.agg #[.int .i64 1, .string ⟨#[97]⟩], true) := by kernel_rfl
  have n0 : (St0 1 8).line.length ≤ 1000000 := by decide
  have n1 : ex1.line.length ≤ 1000000 := by decide
  have n2 : ex2.line.length ≤ 1000000 := by decide
  have n3 : ex3.line.length ≤ 1000000 := by decide
  have n4 : ex4.line.length ≤ 1000000 := by decide
  have n5 : ex5.line.length ≤ 1000000 := by decide
  have n6 : ex6.line.length ≤ 1000000 := by decide
  have R2 := Lib.hid r2
  have R4 := Lib.hid r4
  have R6 := Lib.hid r6
  clear r2 r4 r6
  go_enter Try.func7, Try.ntmps7
  go_wp2_with (fail)
  refine (new_any 1 8 _ (by decide)).mono ?_
  rintro e w1 ⟨qb, d, rfl, hI, hb⟩
  have L1 := Lib.hid (Live.alloc (show Live w qb (St0 1 8) d w1 from ⟨hI, hb⟩) (.cells #[.int .i64 1, .string ⟨#[97]⟩] 30))
  have A1 := Lib.hid (At.new hI ⟨1, ⟨#[97]⟩⟩)
  have a1 := A1.out.cell0
  have a2 := A1.out.cell1
  clear hI hb
  go_wp2_with (fail)
  refine (add_any _ qb (St0 1 8) d ⟨1, ⟨#[97]⟩⟩ _ L1.out.1 n0).mono ?_
  rintro e v2 ⟨rfl, hs⟩
  obtain ⟨d2, l2, z2, t2, -⟩ := L1.out.step hs
  have L2 : Hid (Live w qb ex1 d2 v2) := Lib.hid l2
  have T2_0 := Lib.hid ((t2 _ _ A1.out))
  have cT2_00 := T2_0.out.cell0
  have cT2_01 := T2_0.out.cell1
  clear hs l2 t2 z2 a1 a2
  go_wp2_with (fail)
  refine (add_any _ qb (ex1) d2 ⟨1, ⟨#[97]⟩⟩ _ L2.out.1 n1).mono ?_
  rintro e v3 ⟨rfl, hs⟩
  obtain ⟨d3, l3, z3, t3, -⟩ := L2.out.step hs
  have L3 : Hid (Live w qb ex2 d3 v3) := Lib.hid l3
  have T3_0 := Lib.hid ((t3 _ _ T2_0.out))
  have cT3_00 := T3_0.out.cell0
  have cT3_01 := T3_0.out.cell1
  clear hs l3 t3 z3 cT2_00 cT2_01
  go_wp2_with (fail)
  refine (get_is _ qb (ex2) d3 _ R2.out L3.out.1 n2).mono ?_
  rintro e v4 ⟨rfl, hs⟩
  obtain ⟨d4, l4, z4, t4, -⟩ := L3.out.step hs
  have hbx4 : Below v4.heap.size v4 (v4.alloc (.cells #[.int .i64 1, .string ⟨#[97]⟩] 30)) := (Below.refl _ _).alloc (Nat.le_refl _) _
  have L4 : Hid (Live w qb ex3 d4 (v4.alloc (.cells #[.int .i64 1, .string ⟨#[97]⟩] 30))) := Lib.hid (l4.alloc _)
  have T4_0 := Lib.hid ((t4 _ _ T3_0.out).below hbx4)
  have T4_1 := Lib.hid (At.new l4.1 ⟨1, ⟨#[97]⟩⟩)
  have cT4_00 := T4_0.out.cell0
  have cT4_01 := T4_0.out.cell1
  have cT4_10 := T4_1.out.cell0
  have cT4_11 := T4_1.out.cell1
  clear hs l4 t4 z4 hbx4 cT3_00 cT3_01
  go_wp2_with (fail)
  refine (add_any _ qb (ex3) d4 ⟨1, ⟨#[97]⟩⟩ _ L4.out.1 n3).mono ?_
  rintro e v5 ⟨rfl, hs⟩
  obtain ⟨d5, l5, z5, t5, -⟩ := L4.out.step hs
  have L5 : Hid (Live w qb ex4 d5 v5) := Lib.hid l5
  have T5_0 := Lib.hid ((t5 _ _ T4_0.out))
  have T5_1 := Lib.hid ((t5 _ _ T4_1.out))
  have cT5_00 := T5_0.out.cell0
  have cT5_01 := T5_0.out.cell1
  have cT5_10 := T5_1.out.cell0
  have cT5_11 := T5_1.out.cell1
  clear hs l5 t5 z5 cT4_00 cT4_01 cT4_10 cT4_11
  go_wp2_with (fail)
  refine (get_is _ qb (ex4) d5 _ R4.out L5.out.1 n4).mono ?_
  rintro e v6 ⟨rfl, hs⟩
  obtain ⟨d6, l6, z6, t6, -⟩ := L5.out.step hs
  have hbx6 : Below v6.heap.size v6 (v6.alloc (.cells #[.int .i64 0, .string ⟨#[]⟩] 30)) := (Below.refl _ _).alloc (Nat.le_refl _) _
  have L6 : Hid (Live w qb ex5 d6 (v6.alloc (.cells #[.int .i64 0, .string ⟨#[]⟩] 30))) := Lib.hid (l6.alloc _)
  have T6_0 := Lib.hid ((t6 _ _ T5_0.out).below hbx6)
  have T6_1 := Lib.hid ((t6 _ _ T5_1.out).below hbx6)
  have T6_2 := Lib.hid (At.new l6.1 ⟨0, ⟨#[]⟩⟩)
  have cT6_00 := T6_0.out.cell0
  have cT6_01 := T6_0.out.cell1
  have cT6_10 := T6_1.out.cell0
  have cT6_11 := T6_1.out.cell1
  have cT6_20 := T6_2.out.cell0
  have cT6_21 := T6_2.out.cell1
  clear hs l6 t6 z6 hbx6 cT5_00 cT5_01 cT5_10 cT5_11
  go_wp2_with (fail)
  refine (done_any _ qb (ex5) d6 ⟨1, ⟨#[97]⟩⟩ _ L6.out.1 n5).mono ?_
  rintro e v7 ⟨rfl, hs⟩
  obtain ⟨d7, l7, z7, t7, -⟩ := L6.out.step hs
  have L7 : Hid (Live w qb ex6 d7 v7) := Lib.hid l7
  have T7_0 := Lib.hid ((t7 _ _ T6_0.out))
  have T7_1 := Lib.hid ((t7 _ _ T6_1.out))
  have T7_2 := Lib.hid ((t7 _ _ T6_2.out))
  have cT7_00 := T7_0.out.cell0
  have cT7_01 := T7_0.out.cell1
  have cT7_10 := T7_1.out.cell0
  have cT7_11 := T7_1.out.cell1
  have cT7_20 := T7_2.out.cell0
  have cT7_21 := T7_2.out.cell1
  clear hs l7 t7 z7 cT6_00 cT6_01 cT6_10 cT6_11 cT6_20 cT6_21
  go_wp2_with (fail)
  refine (get_is _ qb (ex6) d7 _ R6.out L7.out.1 n6).mono ?_
  rintro e v8 ⟨rfl, hs⟩
  obtain ⟨d8, l8, z8, t8, -⟩ := L7.out.step hs
  have hbx8 : Below v8.heap.size v8 (v8.alloc (.cells #[.int .i64 1, .string ⟨#[97]⟩] 30)) := (Below.refl _ _).alloc (Nat.le_refl _) _
  have L8 : Hid (Live w qb ex7 d8 (v8.alloc (.cells #[.int .i64 1, .string ⟨#[97]⟩] 30))) := Lib.hid (l8.alloc _)
  have T8_0 := Lib.hid ((t8 _ _ T7_0.out).below hbx8)
  have T8_1 := Lib.hid ((t8 _ _ T7_1.out).below hbx8)
  have T8_2 := Lib.hid ((t8 _ _ T7_2.out).below hbx8)
  have T8_3 := Lib.hid (At.new l8.1 ⟨1, ⟨#[97]⟩⟩)
  have cT8_00 := T8_0.out.cell0
  have cT8_01 := T8_0.out.cell1
  have cT8_10 := T8_1.out.cell0
  have cT8_11 := T8_1.out.cell1
  have cT8_20 := T8_2.out.cell0
  have cT8_21 := T8_2.out.cell1
  have cT8_30 := T8_3.out.cell0
  have cT8_31 := T8_3.out.cell1
  clear hs l8 t8 z8 hbx8 cT7_00 cT7_01 cT7_10 cT7_11 cT7_20 cT7_21
  go_wp2_with (fail)
  go_ret
  exact ⟨rfl, L8.out.2⟩
end Go.Proofs.Ythmknlflgajnpaa
