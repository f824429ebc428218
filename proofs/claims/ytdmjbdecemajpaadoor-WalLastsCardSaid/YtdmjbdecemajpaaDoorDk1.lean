/- The disk in memory: a struct of four cells and a map; how a change of a part leaves the rest. -/
import Derived.Test.YtdmjbdecemajpaaDoorProg
import Derived.Test.YtdmjbdecemajpaaDoorDkP
import Derived.Test.YtdmjbdecemajpaaDoorTk
import Derived.Deep.RegionLaw
namespace Go.Proofs.YtdmjbdecemajpaaDoor.D
set_option linter.unusedVariables false
set_option linter.unusedSimpArgs false
open Go.RowKit
def kv (a : Int) : Value := .int .i64 a
def fv (f : Fl) : Value := .agg #[.string f.data, .int .i64 f.safe]
theorem key_eq (a b : Int) (d : Nat) (w : World) : (Op.equalIn (d + 1) 3 (kv a) (kv b)).run Tryd.prog w = .ok (decide (a = b)) w := by
  simp [kv, go_sem]
  by_cases h : a = b <;> simp [h]
theorem check_int (b : Bool) (n : Nat) (a : Int) (w : World) : (Instr.checkKey b (n + 1) 3 (.int .i64 a)).run Tryd.prog w = .ok () w := by
  simp [Instr.checkKey, go_sem]
theorem key_law : M.KeyLaw Tryd.prog 3 kv where
  check b a w := check_int b 9999 a w
  eq a b w := key_eq a b 9999 w
  now td a b h := .inr (by rw [Tryd.underlying3] at h; cases h; simp [Instr.sameNow, kv]; by_cases h : a = b <;> simp [h])
  bits a := by
    show Instr.sameBits (9999 + 1) _ _ = true
    unfold Instr.sameBits
    simp [kv]
  ty := ⟨_, Tryd.underlying3⟩
theorem zeroF (w : World) : (zeroValue 95).run Tryd.prog w = .ok (fv fl0) w := by kernel_rfl
def mi (l : FM) : List (Int × Value) := l.map fun p => (p.1, fv p.2)
theorem mi_get (l : FM) (a : Int) : M.get (mi l) a = (M.get l a).map fv := by
  induction l with
  | nil => rfl
  | cons p l ih => simp only [mi, List.map_cons, M.get] at *; split; rfl; exact ih
theorem mi_put (l : FM) (a : Int) (v : Fl) : M.put (mi l) a (fv v) = mi (M.put l a v) := by
  induction l with
  | nil => rfl
  | cons p l ih => simp only [mi, List.map_cons, M.put] at *; split; rfl; rw [ih]; rfl
theorem mi_del (l : FM) (a : Int) : M.del (mi l) a = mi (M.del l a) := by
  induction l with
  | nil => rfl
  | cons p l ih => simp only [mi, List.map_cons, M.del] at *; split; rfl; rw [ih]; rfl
theorem mi_length (l : FM) : (mi l).length = l.length := by simp [mi]
theorem mi_fl (l : FM) (a : Int) : (M.get (mi l) a).getD (fv fl0) = fv ((M.get l a).getD fl0) := by
  rw [mi_get]; cases M.get l a <;> rfl
def dcells (s : DS) (m : Nat) : Array Value := #[.map (some m), .bool s.off, .int .i64 s.fuse, .int .i64 s.steps]
structure DInv (B db m : Nat) (s : DS) (w : World) : Prop where
  cells : w.heap[db]? = some (.cells (dcells s m) 81 (0, 0))
  hB : B ≤ db
  hm : B ≤ m
  map : M.MapIs kv w m (mi s.files)
/-- nothing but such blocks has turned -/
structure Fr (F : Nat → Prop) (w w1 : World) : Prop where
  os : w1.os = w.os
  tape : w1.tape = w.tape
  output : w1.output = w.output
  size : w.heap.size ≤ w1.heap.size
  block : ∀ j, j < w.heap.size → ¬ F j → w1.heap[j]? = w.heap[j]?
theorem Fr.refl (F : Nat → Prop) (w : World) : Fr F w w := ⟨rfl, rfl, rfl, Nat.le_refl _, fun _ _ _ => rfl⟩
theorem Fr.of_below {F : Nat → Prop} {w w1 : World} (h : Below w.heap.size w w1) : Fr F w w1 := ⟨h.os, h.tape, h.output, h.size, fun j hj _ => h.block j hj⟩
theorem Fr.trans {F G : Nat → Prop} {w w1 w2 : World} (h : Fr F w w1) (k : Fr G w1 w2) (hG : ∀ j, G j → F j ∨ w.heap.size ≤ j) : Fr F w w2 :=
  ⟨k.os.trans h.os, k.tape.trans h.tape, k.output.trans h.output, Nat.le_trans h.size k.size, fun j hj hF => (k.block j (Nat.lt_of_lt_of_le hj h.size) (fun hg => by rcases hG j hg with h1 | h1; exact hF h1; omega)).trans (h.block j hj hF)⟩
theorem Fr.below {F : Nat → Prop} {B : Nat} {W w w1 : World} (h : Below B W w) (hB : B ≤ w.heap.size) (k : Fr F w w1) (hF : ∀ j, F j → B ≤ j) : Below B W w1 :=
  h.trans ⟨k.os, k.tape, k.output, k.size, fun j hj => k.block j (Nat.lt_of_lt_of_le hj hB) (fun hf => by have := hF j hf; omega)⟩
def Foot (db m j : Nat) : Prop := j = db ∨ j = m
theorem DInv.lt {B db m : Nat} {s : DS} {w : World} (h : DInv B db m s w) : db < w.heap.size := (Array.getElem?_eq_some_iff.1 h.cells).1
theorem DInv.mlt {B db m : Nat} {s : DS} {w : World} (h : DInv B db m s w) : m < w.heap.size := h.map.lt
theorem DInv.foot_lt {B db m : Nat} {s : DS} {w : World} (h : DInv B db m s w) {j : Nat} (hj : Foot db m j) : j < w.heap.size := by
  rcases hj with rfl | rfl
  · exact h.lt
  · exact h.mlt
theorem DInv.foot_B {B db m : Nat} {s : DS} {w : World} (h : DInv B db m s w) {j : Nat} (hj : Foot db m j) : B ≤ j := by
  rcases hj with rfl | rfl
  · exact h.hB
  · exact h.hm
theorem DInv.keep {B db m : Nat} {s : DS} {w w1 : World} (h : DInv B db m s w) (hk : ∀ j, Foot db m j → w1.heap[j]? = w.heap[j]?) : DInv B db m s w1 :=
  ⟨(hk db (.inl rfl)).trans h.cells, h.hB, h.hm, h.map.of_block (hk m (.inr rfl))⟩
theorem DInv.below {B db m : Nat} {s : DS} {w w1 : World} (h : DInv B db m s w) (hb : Below w.heap.size w w1) : DInv B db m s w1 := h.keep fun j hj => hb.block j (h.foot_lt hj)
theorem DInv.apart {B db m : Nat} {s : DS} {w : World} (h : DInv B db m s w) : db ≠ m := by
  rintro rfl
  obtain ⟨es, ck, hh, _⟩ := h.map
  rw [h.cells] at hh; cases hh
theorem DInv.cell {B db m : Nat} {s : DS} {w : World} (h : DInv B db m s w) (i : Nat) : w.cell? ⟨db, i, none⟩ = (dcells s m)[i]? := by simp [World.cell?, h.cells]
theorem DInv.free {B db m : Nat} {s : DS} {w : World} (h : DInv B db m s w) (i : Nat) : w.frozen? ⟨db, i, none⟩ = false := by simp [World.frozen?, h.cells]
theorem DInv.c0 {B db m : Nat} {s : DS} {w : World} (h : DInv B db m s w) : w.cell? ⟨db, 0, none⟩ = some (.map (some m)) := by rw [h.cell]; rfl
theorem DInv.c1 {B db m : Nat} {s : DS} {w : World} (h : DInv B db m s w) : w.cell? ⟨db, 1, none⟩ = some (.bool s.off) := by rw [h.cell]; rfl
theorem DInv.c2 {B db m : Nat} {s : DS} {w : World} (h : DInv B db m s w) : w.cell? ⟨db, 2, none⟩ = some (.int .i64 s.fuse) := by rw [h.cell]; rfl
theorem DInv.c3 {B db m : Nat} {s : DS} {w : World} (h : DInv B db m s w) : w.cell? ⟨db, 3, none⟩ = some (.int .i64 s.steps) := by rw [h.cell]; rfl
/-- a call on the disk has turned s into s' -/
def DStep (B db m : Nat) (w : World) (s' : DS) (w' : World) : Prop := DInv B db m s' w' ∧ Fr (Foot db m) w w'
theorem DStep.of {B db m : Nat} {s' : DS} {w w' : World} (h : DInv B db m s' w') (hf : Fr (Foot db m) w w') : DStep B db m w s' w' := ⟨h, hf⟩
theorem DStep.from' {B db m : Nat} {s' : DS} {w w1 w' : World} (hf : Fr (Foot db m) w w1) (h : DStep B db m w1 s' w') : DStep B db m w s' w' := ⟨h.1, hf.trans h.2 (fun _ hj => .inl hj)⟩
theorem DStep.same {B db m : Nat} {s : DS} {w w' : World} (h : DInv B db m s w) (hb : Below w.heap.size w w') : DStep B db m w s w' := ⟨h.below hb, Fr.of_below hb⟩
theorem DStep.below {B db m : Nat} {s s' : DS} {w0 w w' : World} (h : DInv B db m s w) (hb : Below B w0 w) (k : DStep B db m w s' w') : Below B w0 w' :=
  Fr.below hb (Nat.le_trans h.hB (Nat.le_of_lt h.lt)) k.2 (fun _ hj => h.foot_B hj)
/-- a block of neither -/
structure K1 (db m : Nat) (w : World) (A : Nat) (o : Obj) : Prop where
  lt : A < w.heap.size
  off : ¬ Foot db m A
  is : w.heap[A]? = some o
theorem K1.below {db m : Nat} {w w1 : World} {A : Nat} {o : Obj} (h : K1 db m w A o) (hb : Below w.heap.size w w1) : K1 db m w1 A o := ⟨Nat.lt_of_lt_of_le h.lt hb.size, h.off, (hb.block A h.lt).trans h.is⟩
theorem K1.new {B db m : Nat} {s : DS} {w : World} (h : DInv B db m s w) (o : Obj) : K1 db m (w.alloc o) w.heap.size o := ⟨by simp, fun hf => Nat.lt_irrefl _ (h.foot_lt hf), G.heap_new _ _⟩
theorem K1.step {B db m : Nat} {s' : DS} {w w' : World} {A : Nat} {o : Obj} (h : K1 db m w A o) (k : DStep B db m w s' w') : K1 db m w' A o := ⟨Nat.lt_of_lt_of_le h.lt k.2.size, h.off, (k.2.block A h.lt h.off).trans h.is⟩
/-- the map has turned -/
theorem DInv.turn {B db m : Nat} {s : DS} {w w1 : World} (h : DInv B db m s w) (l : FM) (hk : ∀ j, j ≠ m → w1.heap[j]? = w.heap[j]?) (hm : M.MapIs kv w1 m (mi l)) : DInv B db m { s with files := l } w1 :=
  ⟨(hk db h.apart).trans h.cells, h.hB, h.hm, hm⟩
theorem fr_upd {F : Nat → Prop} (w : World) (n r : Nat) (o : Obj) (h : F r) : Fr F w (M.upd (w.drewN n) r o) :=
  ⟨rfl, rfl, rfl, by rw [M.upd_size]; exact Nat.le_refl _, fun j _ hj => M.upd_other _ _ _ j (fun e => hj (e ▸ h))⟩
theorem fr_set {F : Nat → Prop} (w : World) (r i : Nat) (v : Value) (h : F r) : Fr F w (w.setCell ⟨r, i, none⟩ v) :=
  ⟨rfl, rfl, rfl, by simp [World.setCell], fun j _ hj => Below.heap_setCell _ _ _ _ (fun e => hj (e ▸ h))⟩
/-- a lookup that tells whether it is there -/
theorem lookT {w : World} {m : Nat} {l : FM} (h : M.MapIs kv w m (mi l)) (a : Int) {f : Fl} {b : Bool} (hf : (M.get l a).getD fl0 = f) (hb : (M.get l a).isSome = b) :
    ∀ n, (Instr.lookup 79 (.map (some m)) (.int .i64 a) true).run Tryd.prog (w.drewN n) = .ok (.tuple #[.agg #[.string f.data, .int .i64 f.safe], .bool b]) (w.drewN n) := fun n => by
  have := M.lookup_run key_law Tryd.underlying79 zeroF true a (w := w.drewN n) (r := m) (l := mi l) h
  rw [mi_fl, mi_get, Option.isSome_map, hf, hb] at this
  exact this
theorem look {w : World} {m : Nat} {l : FM} (h : M.MapIs kv w m (mi l)) (a : Int) {f : Fl} (hf : (M.get l a).getD fl0 = f) :
    ∀ n, (Instr.lookup 79 (.map (some m)) (.int .i64 a) false).run Tryd.prog (w.drewN n) = .ok (.agg #[.string f.data, .int .i64 f.safe]) (w.drewN n) := fun n => by
  have := M.lookup_run key_law Tryd.underlying79 zeroF false a (w := w.drewN n) (r := m) (l := mi l) h
  rw [mi_fl, hf] at this
  exact this
/-- what a store into the map leaves -/
theorem mput {B db m : Nat} {s : DS} {w : World} (h : DInv B db m s w) (a : Int) (f : Fl) :
    ∃ o, (∀ n, (Instr.mapUpdate 79 (.map (some m)) (.int .i64 a) (.agg #[.string f.data, .int .i64 f.safe])).run Tryd.prog (w.drewN n) = .ok () (M.upd (w.drewN n) m o)) ∧
      ∀ n, DInv B db m (s.put a f) (M.upd (w.drewN n) m o) := by
  obtain ⟨o, ho⟩ := M.update_run key_law Tryd.underlying79 a (fv f) h.map
  refine ⟨o, fun n => (ho (w.drewN n) rfl).1, fun n => ?_⟩
  have hd : DInv B db m s (w.drewN n) := h.keep fun _ _ => rfl
  exact hd.turn _ (fun j hj => M.upd_other _ _ _ j hj) (by rw [← mi_put]; exact (ho (w.drewN n) rfl).2)
theorem mdel {B db m : Nat} {s : DS} {w : World} (h : DInv B db m s w) (T : TypeId) (a : Int) :
    ∃ o, (∀ n, (Builtin.delete_ #[79, 3] T #[.map (some m), .int .i64 a]).run Tryd.prog (w.drewN n) = .ok (.tuple #[]) (M.upd (w.drewN n) m o)) ∧
      ∀ n, DInv B db m (s.del a) (M.upd (w.drewN n) m o) := by
  obtain ⟨o, ho⟩ := M.delete_run key_law Tryd.underlying79 T a h.map
  refine ⟨o, fun n => (ho (w.drewN n) rfl).1, fun n => ?_⟩
  have hd : DInv B db m s (w.drewN n) := h.keep fun _ _ => rfl
  exact hd.turn _ (fun j hj => M.upd_other _ _ _ j hj) (by rw [← mi_del]; exact (ho (w.drewN n) rfl).2)
end Go.Proofs.YtdmjbdecemajpaaDoor.D
