/- Short words for a walk through a region that draws its order. -/
import Derived.Test.YtolndeolehkjoaaEq3
namespace Go.Proofs.Ytolndeolehkjoaa
set_option linter.unusedVariables false
set_option linter.unusedSimpArgs false
set_option linter.unusedVariables false
open Go.RowKit
theorem s1 {α : Type} (l : List α) (i : Nat) (a : α) : l.toArray.setIfInBounds i a = (l.set i a).toArray := by simp only [List.setIfInBounds_toArray]
theorem s2 {α : Type} {x a : α} {xs : List α} : (x :: xs).set 0 a = a :: xs := List.set_cons_zero
theorem s3 {α : Type} {x a : α} {xs : List α} {n : Nat} : (x :: xs).set (n + 1) a = x :: xs.set n a := List.set_cons_succ
section
variable {P : Program} {ops : Array Oper} {Q : Exit → Act → World → Prop} {md : Region.Mode} {S : World → Prop} {oi : Oper} {fuel : Nat} {listed : Array Bool} {a : Act} {w : World}
/-- an operation that yields its value is taken first -/
theorem tk (i t : Nat) (v : Value) (h : wpAnyH P md ops Q S fuel (listed.setIfInBounds i true) ⟨a.tmps.setIfInBounds t v, a.defers⟩ w)
    (hi : ops[i]? = some oi := by rfl) (hd : oi.dst = some t := by rfl) (hs : Region.noSelect ops = true := by kernel_rfl) (hf : Region.free md ops listed i = true := by kernel_rfl)
    (hr : (Region.ready md ops listed).contains i = true := by kernel_rfl) (hQ : ∀ c a w, Q (.panic c) (a.put oi.dst v) w → Q (.panic c) a w := by exact fun _ _ _ h => h)
    (hy : Region.wanted oi (yielded ops a.tmps) = true := by rfl) (hS : S w := by assumption)
    (hv : ∀ w, S w → (execOp a.eval oi).run P w = .ok (.value v) w := by (intro V hV; clear hV; go_simp; try rfl)) : wpAnyH P md ops Q S (fuel + 1) listed a w :=
  takeH t v hi hd hs hf hr hQ hy hv hS h
/-- an operation that is not wanted -/
theorem ts (i t : Nat) (h : wpAnyH P md ops Q S fuel (listed.setIfInBounds i true) ⟨a.tmps.setIfInBounds t undef, a.defers⟩ w)
    (hi : ops[i]? = some oi := by rfl) (hd : oi.dst = some t := by rfl) (hs : Region.noSelect ops = true := by kernel_rfl) (hf : Region.free md ops listed i = true := by kernel_rfl)
    (hr : (Region.ready md ops listed).contains i = true := by kernel_rfl) (hQ : ∀ c a w, Q (.panic c) (a.put oi.dst undef) w → Q (.panic c) a w := by exact fun _ _ _ h => h)
    (hy : Region.wanted oi (yielded ops a.tmps) = false := by rfl) (hS : S w := by assumption) : wpAnyH P md ops Q S (fuel + 1) listed a w :=
  takeS t hi hd hs hf hr hQ hy hS h
end
end Go.Proofs.Ytolndeolehkjoaa
