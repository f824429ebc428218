/- The queue of the program in memory: its state, and how each change of a part leaves the rest. -/
import Derived.Test.YthmknlflgajnpaaProg
import Derived.Test.YthmknlflgajnpaaMap
import Derived.Deep.RegionHeld3
namespace Go.Proofs.Ythmknlflgajnpaa
open Go.RowKit
/-- a name -/
structure Ref where
  kind : Int
  name : ByteArray
  deriving DecidableEq
def rv (r : Ref) : Value := .agg #[.int .i64 r.kind, .string r.name]
def rc (r : Ref) : List Value := [.int .i64 r.kind, .string r.name]
theorem toList_inj {a b : ByteArray} (h : a.toList = b.toList) : a = b := by
  rw [ByteArray.toList_eq, ByteArray.toList_eq] at h
  cases a; cases b
  simp only [ByteArray.mk.injEq]
  exact Array.toList_inj.1 h
theorem ref_eq (a b : Ref) (d : Nat) (w : World) : (Op.equalIn (d + 2) 30 (rv a) (rv b)).run Try.prog w = .ok (decide (a = b)) w := by
  simp [rv, go_sem]
  cases a with | mk k s => cases b with | mk k' s' =>
  by_cases h1 : k = k'
  · by_cases h2 : s.toList = s'.toList
    · have := toList_inj h2; subst this; simp [h1]
    · have h3 : s ≠ s' := fun e => h2 (by rw [e])
      simp [h1, h2, h3]
  · simp [h1]
theorem check_int (b : Bool) (n : Nat) (a : Int) (w : World) : (Instr.checkKey b (n + 1) 3 (.int .i64 a)).run Try.prog w = .ok () w := by
  simp [Instr.checkKey, go_sem]
theorem check_str (b : Bool) (n : Nat) (a : ByteArray) (w : World) : (Instr.checkKey b (n + 1) 9 (.string a)).run Try.prog w = .ok () w := by
  simp [Instr.checkKey, go_sem]
theorem ref_check (b : Bool) (n : Nat) (a : Ref) (w : World) : (Instr.checkKey b (n + 2) 30 (rv a)).run Try.prog w = .ok () w := by
  unfold Instr.checkKey
  simp [rv, go_sem, check_int, check_str]
theorem ref_law : M.KeyLaw Try.prog 30 rv where
  check b a w := ref_check b 9998 a w
  eq a b w := ref_eq a b 9998 w
  now td a b h := .inl (by rw [Try.underlying30] at h; cases h; rfl)
  bits a := by
    show Instr.sameBits (9998 + 2) _ _ = true
    unfold Instr.sameBits
    simp [rv, Instr.sameBits, beq_toListBytes]
  ty := ⟨_, Try.underlying30⟩
theorem zero3 (w : World) : (zeroValue 3).run Try.prog w = .ok (.int .i64 0) w := by kernel_rfl

/-- a map to numbers -/
abbrev NM := List (Ref × Int)
def mi (l : NM) : List (Ref × Value) := l.map fun p => (p.1, .int .i64 p.2)
theorem mi_get (l : NM) (a : Ref) : M.get (mi l) a = (M.get l a).map (.int .i64) := by
  induction l with
  | nil => rfl
  | cons p l ih => simp only [mi, List.map_cons, M.get] at *; split; rfl; exact ih
theorem mi_put (l : NM) (a : Ref) (v : Int) : M.put (mi l) a (.int .i64 v) = mi (M.put l a v) := by
  induction l with
  | nil => rfl
  | cons p l ih => simp only [mi, List.map_cons, M.put] at *; split; rfl; rw [ih]; rfl
theorem mi_del (l : NM) (a : Ref) : M.del (mi l) a = mi (M.del l a) := by
  induction l with
  | nil => rfl
  | cons p l ih => simp only [mi, List.map_cons, M.del] at *; split; rfl; rw [ih]; rfl
theorem mi_length (l : NM) : (mi l).length = l.length := by simp [mi]
/-- the number at a name, 0 if it isn't there -/
def num (l : NM) (a : Ref) : Int := (M.get l a).getD 0
theorem mi_num (l : NM) (a : Ref) : (M.get (mi l) a).getD (.int .i64 0) = .int .i64 (num l a) := by
  rw [mi_get]; unfold num; cases M.get l a <;> rfl

/-- an item that waits -/
structure Item where
  due : Int
  ref : Ref
  deriving DecidableEq
def ic (x : Item) : List Value := [.int .i64 x.due, .int .i64 x.ref.kind, .string x.ref.name]
/-- a queue: maps 0 marked, 1 busy, 2 until, 3 fails -/
structure St where
  base : Int
  most : Int
  now : Int
  line : List Ref
  pile : List Item
  mp : Fin 4 → NM
structure QD where
  lv : Value
  wv : Value
  m : Fin 4 → Nat
def qcells (s : St) (d : QD) : Array Value := #[.int .i64 s.base, .int .i64 s.most, .int .i64 s.now, d.lv, .map (some (d.m 0)), .map (some (d.m 1)), .map (some (d.m 2)), d.wv, .map (some (d.m 3))]
def Foot (qb : Nat) (d : QD) (j : Nat) : Prop := j = qb ∨ (∃ i, j = d.m i) ∨ d.lv.ownBlock = some j ∨ d.wv.ownBlock = some j
structure Inv (B qb : Nat) (s : St) (d : QD) (w : World) : Prop where
  cells : w.heap[qb]? = some (.cells (qcells s d) 60 (0, 0))
  hB : B ≤ qb
  line : w.ownsRow B 30 2 d.lv s.line.length (s.line.flatMap rc)
  pile : w.ownsRow B 64 3 d.wv s.pile.length (s.pile.flatMap ic)
  maps : ∀ i, M.MapIs rv w (d.m i) (mi (s.mp i))
  mB : ∀ i, B ≤ d.m i
  apart : ∀ i j, i ≠ j → d.m i ≠ d.m j
theorem owns_block {w : World} {B e size n : Nat} {v : Value} {xs : List Value} (h : w.ownsRow B e size v n xs) {j : Nat} (hj : v.ownBlock = some j) : ∃ c, w.heap[j]? = some (.cells c e (0, 0)) := by
  obtain ⟨_, ⟨rfl, rfl⟩ | ⟨g, cap, cur, rfl, hb, hh, _⟩⟩ := h
  · simp [Value.ownBlock] at hj
  · have : g = j := by simpa [Value.ownBlock] using hj
    subst this; exact ⟨_, hh⟩
theorem owns_kept {w w1 : World} {B e size n : Nat} {v : Value} {xs : List Value} (h : w.ownsRow B e size v n xs) (hk : ∀ j, v.ownBlock = some j → w1.heap[j]? = w.heap[j]?) : w1.ownsRow B e size v n xs := by
  obtain ⟨hl, ⟨rfl, rfl⟩ | ⟨g, cap, cur, rfl, hb, hh, r⟩⟩ := h
  · exact ⟨hl, .inl ⟨rfl, rfl⟩⟩
  · exact ⟨hl, .inr ⟨g, cap, cur, rfl, hb, (hk g rfl).trans hh, r⟩⟩
theorem Inv.foot_lt {B qb : Nat} {s : St} {d : QD} {w : World} (h : Inv B qb s d w) {j : Nat} (hj : Foot qb d j) : j < w.heap.size := by
  rcases hj with rfl | ⟨i, rfl⟩ | hj | hj
  · exact (Array.getElem?_eq_some_iff.1 h.cells).1
  · exact (h.maps i).lt
  · obtain ⟨c, hc⟩ := owns_block h.line hj; exact (Array.getElem?_eq_some_iff.1 hc).1
  · obtain ⟨c, hc⟩ := owns_block h.pile hj; exact (Array.getElem?_eq_some_iff.1 hc).1
theorem Inv.foot_B {B qb : Nat} {s : St} {d : QD} {w : World} (h : Inv B qb s d w) {j : Nat} (hj : Foot qb d j) : B ≤ j := by
  rcases hj with rfl | ⟨i, rfl⟩ | hj | hj
  · exact h.hB
  · exact h.mB i
  · exact G.owns_base h.line j hj
  · exact G.owns_base h.pile j hj
theorem Inv.keep {B qb : Nat} {s : St} {d : QD} {w w1 : World} (h : Inv B qb s d w) (hk : ∀ j, Foot qb d j → w1.heap[j]? = w.heap[j]?) : Inv B qb s d w1 where
  cells := (hk qb (.inl rfl)).trans h.cells
  hB := h.hB
  line := owns_kept h.line fun j hj => hk j (.inr (.inr (.inl hj)))
  pile := owns_kept h.pile fun j hj => hk j (.inr (.inr (.inr hj)))
  maps i := (h.maps i).of_block (hk _ (.inr (.inl ⟨i, rfl⟩)))
  mB := h.mB
  apart := h.apart
theorem Inv.below {B qb : Nat} {s : St} {d : QD} {w w1 : World} (h : Inv B qb s d w) (hb : Below w.heap.size w w1) : Inv B qb s d w1 := h.keep fun j hj => hb.block j (h.foot_lt hj)
theorem map_not_cells {w : World} {a b : Nat} {c : Array Value} {e : TypeId} {f : Nat × Nat} {kv : Ref → Value} {l : List (Ref × Value)} (h : w.heap[a]? = some (.cells c e f)) (k : M.MapIs kv w b l) : a ≠ b := by
  rintro rfl
  obtain ⟨es, ck, hh, _⟩ := k
  rw [h] at hh; cases hh
theorem cells_not {w : World} {a b : Nat} {c c' : Array Value} {e e' : TypeId} {f f' : Nat × Nat} (h : w.heap[a]? = some (.cells c e f)) (k : w.heap[b]? = some (.cells c' e' f')) (hne : e ≠ e') : a ≠ b := by
  rintro rfl
  rw [h] at k; injection k with k; injection k with _ k _; exact hne k
/-- a map of the queue has turned -/
theorem Inv.map {B qb : Nat} {s : St} {d : QD} {w w1 : World} (h : Inv B qb s d w) (i : Fin 4) (l : NM) (hk : ∀ j, j ≠ d.m i → w1.heap[j]? = w.heap[j]?) (hm : M.MapIs rv w1 (d.m i) (mi l)) :
    Inv B qb { s with mp := fun k => if k = i then l else s.mp k } d w1 where
  cells := (hk qb (map_not_cells h.cells (h.maps i))).trans h.cells
  hB := h.hB
  line := owns_kept h.line fun j hj => hk j (by obtain ⟨c, hc⟩ := owns_block h.line hj; exact map_not_cells hc (h.maps i))
  pile := owns_kept h.pile fun j hj => hk j (by obtain ⟨c, hc⟩ := owns_block h.pile hj; exact map_not_cells hc (h.maps i))
  maps k := by
    by_cases hki : k = i
    · subst hki; simpa using hm
    · show M.MapIs rv w1 (d.m k) (mi (if k = i then l else s.mp k))
      rw [if_neg hki]
      exact (h.maps k).of_block (hk _ (h.apart k i hki))
  mB := h.mB
  apart := h.apart
/-- nothing but such blocks has turned -/
structure Fr (F : Nat → Prop) (w w1 : World) : Prop where
  os : w1.os = w.os
  tape : w1.tape = w.tape
  output : w1.output = w.output
  size : w.heap.size ≤ w1.heap.size
  block : ∀ j, j < w.heap.size → ¬ F j → w1.heap[j]? = w.heap[j]?
theorem Fr.refl (F : Nat → Prop) (w : World) : Fr F w w := ⟨rfl, rfl, rfl, Nat.le_refl _, fun _ _ _ => rfl⟩
theorem Fr.of_below {F : Nat → Prop} {w w1 : World} (h : Below w.heap.size w w1) : Fr F w w1 := ⟨h.os, h.tape, h.output, h.size, fun j hj _ => h.block j hj⟩
theorem Fr.trans {F G : Nat → Prop} {w w1 w2 : World} (h : Fr F w w1) (k : Fr G w1 w2) (hG : ∀ j, G j → F j ∨ w.heap.size ≤ j) : Fr F w w2 :=
  ⟨k.os.trans h.os, k.tape.trans h.tape, k.output.trans h.output, Nat.le_trans h.size k.size, fun j hj hF => (k.block j (Nat.lt_of_lt_of_le hj h.size) (fun hg => by rcases hG j hg with h1 | h1; exact hF h1; omega)).trans (h.block j hj hF)⟩
theorem Fr.below {F : Nat → Prop} {B : Nat} {W w w1 : World} (h : Below B W w) (hB : B ≤ w.heap.size) (k : Fr F w w1) (hF : ∀ j, F j → B ≤ j) : Below B W w1 :=
  h.trans ⟨k.os, k.tape, k.output, k.size, fun j hj => k.block j (Nat.lt_of_lt_of_le hj hB) (fun hf => by have := hF j hf; omega)⟩
/-- a call on the queue has turned s into s' -/
def Step (B qb : Nat) (d : QD) (w : World) (s' : St) (w' : World) : Prop :=
  ∃ d', Inv B qb s' d' w' ∧ (∀ j, Foot qb d' j → Foot qb d j ∨ w.heap.size ≤ j) ∧ Fr (Foot qb d) w w'
end Go.Proofs.Ythmknlflgajnpaa
