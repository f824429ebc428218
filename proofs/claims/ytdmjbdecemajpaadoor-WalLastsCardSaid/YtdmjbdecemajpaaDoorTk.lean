/- Short words for a walk through a region that draws its order. No program. -/
import Derived.Test.YtdmjbdecemajpaaDoorGen
import Derived.Deep.RegionHeld3
import Derived.Deep.MidRow
import Derived.Deep.Cut
import Derived.Deep.CutRange
import Derived.Laws.Rows
import Derived.Laws.Tables
namespace Go.Proofs.YtdmjbdecemajpaaDoor
set_option linter.unusedVariables false
set_option linter.unusedSimpArgs false
open Go.RowKit
theorem bel_allocT (w : World) (o : Obj) : Below w.heap.size w (w.alloc o) := (Below.refl _ _).alloc (Nat.le_refl _) _
theorem belowLe {B : Nat} {w1 w2 : World} (hB : B ≤ w1.heap.size) (h : Below w1.heap.size w1 w2) : Below B w1 w2 :=
  ⟨h.os, h.tape, h.output, h.size, fun i hi => h.block i (Nat.lt_of_lt_of_le hi hB)⟩
theorem bel_allocRow (w : World) (a b : Array Value) (T : TypeId) : Below w.heap.size w ((w.alloc (.cells a T)).setRow w.heap.size b) :=
  ⟨rfl, rfl, rfl, by rw [size_setRow]; simp, fun i hi => (setRow_other _ _ _ _ (by omega)).trans ((bel_allocT w _).block i hi)⟩
theorem box_one (w : World) (cs : Array Value) (T : TypeId) : ∃ w1, w1 = w.alloc (.cells cs T) ∧ Below w.heap.size w w1 ∧ w1.heap[w.heap.size]? = some (.cells cs T (0, 0)) := ⟨_, rfl, bel_allocT _ _, G.heap_new _ _⟩
theorem box_two (w : World) (cs ds : Array Value) (T U : TypeId) : ∃ w1, w1 = (w.alloc (.cells cs T)).alloc (.cells ds U) ∧ Below w.heap.size w w1 ∧ w1.heap[w.heap.size]? = some (.cells cs T (0, 0)) ∧ w1.heap[w.heap.size + 1]? = some (.cells ds U (0, 0)) := by
  refine ⟨_, rfl, G.bthen (bel_allocT _ _) (bel_allocT _ _), ((bel_allocT _ _).block _ (by simp)).trans (G.heap_new _ _), ?_⟩
  have h2 := G.heap_new (w.alloc (.cells cs T)) (.cells ds U)
  rw [show (w.alloc (.cells cs T)).heap.size = w.heap.size + 1 by simp] at h2
  exact h2
theorem s1 {α : Type} (l : List α) (i : Nat) (a : α) : l.toArray.setIfInBounds i a = (l.set i a).toArray := by simp only [List.setIfInBounds_toArray]
theorem s2 {α : Type} {x a : α} {xs : List α} : (x :: xs).set 0 a = a :: xs := List.set_cons_zero
theorem s3 {α : Type} {x a : α} {xs : List α} {n : Nat} : (x :: xs).set (n + 1) a = x :: xs.set n a := List.set_cons_succ
section
variable {P : Program} {ops : Array Oper} {Q : Exit → Act → World → Prop} {md : Region.Mode} {S S' : World → Prop} {oi : Oper} {fuel : Nat} {listed : Array Bool} {a : Act} {w : World}
/-- an operation that yields its value is taken first -/
theorem tk (i t : Nat) (v : Value) (h : wpAnyH P md ops Q S fuel (listed.setIfInBounds i true) ⟨a.tmps.setIfInBounds t v, a.defers⟩ w)
    (hi : ops[i]? = some oi := by rfl) (hd : oi.dst = some t := by rfl) (hs : Region.noSelect ops = true := by kernel_rfl) (hf : Region.free md ops listed i = true := by kernel_rfl)
    (hr : (Region.ready md ops listed).contains i = true := by kernel_rfl) (hQ : ∀ c a w, Q (.panic c) (a.put oi.dst v) w → Q (.panic c) a w := by exact fun _ _ _ h => h)
    (hy : Region.wanted oi (yielded ops a.tmps) = true := by rfl) (hS : S w := by assumption)
    (hv : ∀ w, S w → (execOp a.eval oi).run P w = .ok (.value v) w := by (intro V hV; clear hV; go_simp; try rfl)) : wpAnyH P md ops Q S (fuel + 1) listed a w :=
  wpAnyH_take hi hs hf hr hQ (.inl ⟨hy, hv⟩) hS (by rw [hd]; exact h)
/-- an operation that is not wanted -/
theorem ts (i t : Nat) (h : wpAnyH P md ops Q S fuel (listed.setIfInBounds i true) ⟨a.tmps.setIfInBounds t undef, a.defers⟩ w)
    (hi : ops[i]? = some oi := by rfl) (hd : oi.dst = some t := by rfl) (hs : Region.noSelect ops = true := by kernel_rfl) (hf : Region.free md ops listed i = true := by kernel_rfl)
    (hr : (Region.ready md ops listed).contains i = true := by kernel_rfl) (hQ : ∀ c a w, Q (.panic c) (a.put oi.dst undef) w → Q (.panic c) a w := by exact fun _ _ _ h => h)
    (hy : Region.wanted oi (yielded ops a.tmps) = false := by rfl) (hS : S w := by assumption) : wpAnyH P md ops Q S (fuel + 1) listed a w :=
  wpAnyH_take hi hs hf hr hQ (.inr ⟨hy, rfl⟩) hS (by rw [hd]; exact h)
theorem load_row_yields (ty : TypeId) (x : Operand) (ho : oi.op = .load ty x) (g : Nat) (hx : a.eval x = .pointer (some ⟨g, 0, none⟩)) (t : TypeId) (cs : Array Value) (fr : Nat × Nat) (d : TypeDesc)
    (hS : ∀ w, S w → w.heap[g]? = some (.cells cs t fr)) (hu : P.underlying ty = some d) (hd : (match d with | .struct _ | .array _ _ => true | _ => false) = true) (hi : (P.info? ty).map (·.size) = some cs.size) :
    ∀ w, S w → (execOp a.eval oi).run P w = .ok (.value (.agg cs)) w := fun w hw => by
  unfold execOp
  simp only [ho, hx, Instr.loadAt, Instr.sureAddr, Sem.run_bind, Sem.run_pure, Result.andThen_ok, run_loadVar_row w g t ty cs fr d (hS w hw) hu hd hi]
theorem load_mid_yields (ty : TypeId) (x : Operand) (ho : oi.op = .load ty x) (b p : Nat) (hx : a.eval x = .pointer (some ⟨b, p, none⟩)) (cs : List Value) (d : TypeDesc) (hS : ∀ w, S w → w.rangeAt b p cs)
    (hu : P.underlying ty = some d) (hd : d.isRow = true) (hi : (P.info? ty).map (·.size) = some cs.length) :
    ∀ w, S w → (execOp a.eval oi).run P w = .ok (.value (.agg cs.toArray)) w := fun w hw => by
  have h := run_loadAt_mid (P := P) w b p ty cs d (hS w hw) hu hd hi
  unfold execOp
  simp only [ho, hx, Sem.run_bind, h, Result.andThen_ok]
  rfl
theorem wpAnyH_str (h : ∀ V, S' V → S V) : ∀ (fuel : Nat) (listed : Array Bool) (a : Act) (w : World), wpAnyH P md ops Q S' fuel listed a w → wpAnyH P md ops Q S fuel listed a w
  | 0, _, _, _, k => k
  | fuel + 1, _, _, _, k => ⟨k.1, fun i hi => wpOp_mono (fun a' w' h' => ⟨h _ h'.1, wpAnyH_str h fuel _ a' w' h'.2⟩) (k.2 i hi)⟩
end
theorem range_below {w w1 : World} {b p : Nat} {cs : List Value} (h : w.rangeAt b p cs) (hb : Below w.heap.size w w1) : w1.rangeAt b p cs := fun j v hj => G.cell_below hb (h j v hj)
end Go.Proofs.YtdmjbdecemajpaaDoor
