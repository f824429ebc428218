/- Short words for a walk through a region that draws its order. -/
import Derived.Test.YtolndeolehkjoaaRd8
namespace Go.Proofs.Ytolndeolehkjoaa
set_option linter.unusedVariables false
set_option linter.unusedSimpArgs false
open Go.RowKit CodP
theorem s1 {α : Type} (l : List α) (i : Nat) (a : α) : l.toArray.setIfInBounds i a = (l.set i a).toArray := by simp only [List.setIfInBounds_toArray]
theorem s2 {α : Type} {x a : α} {xs : List α} : (x :: xs).set 0 a = a :: xs := List.set_cons_zero
theorem s3 {α : Type} {x a : α} {xs : List α} {n : Nat} : (x :: xs).set (n + 1) a = x :: xs.set n a := List.set_cons_succ
section
variable {P : Program} {ops : Array Oper} {Q : Exit → Act → World → Prop} {md : Region.Mode} {S : World → Prop}
theorem takeS {i : Nat} {oi : Oper} {fuel : Nat} {listed : Array Bool} {a : Act} {w : World} (t : Nat) (hi : ops[i]? = some oi) (hd : oi.dst = some t)
    (hs : Region.noSelect ops = true) (hf : Region.free md ops listed i = true) (hr : (Region.ready md ops listed).contains i = true)
    (hQ : ∀ c a w, Q (.panic c) (a.put oi.dst undef) w → Q (.panic c) a w) (hy : Region.wanted oi (yielded ops a.tmps) = false) (hS : S w)
    (h : wpAnyH P md ops Q S fuel (listed.setIfInBounds i true) ⟨a.tmps.setIfInBounds t undef, a.defers⟩ w) : wpAnyH P md ops Q S (fuel + 1) listed a w :=
  wpAnyH_take hi hs hf hr hQ (.inr ⟨hy, rfl⟩) hS (by rw [hd]; exact h)
end
section
variable {P : Program} {ops : Array Oper} {Q : Exit → Act → World → Prop} {md : Region.Mode} {S : World → Prop} {oi : Oper} {fuel : Nat} {listed : Array Bool} {a : Act} {w : World}
/-- an operation that yields its value is taken first -/
theorem tk (i t : Nat) (v : Value) (h : wpAnyH P md ops Q S fuel (listed.setIfInBounds i true) ⟨a.tmps.setIfInBounds t v, a.defers⟩ w)
    (hi : ops[i]? = some oi := by rfl) (hd : oi.dst = some t := by rfl) (hs : Region.noSelect ops = true := by kernel_rfl) (hf : Region.free md ops listed i = true := by kernel_rfl)
    (hr : (Region.ready md ops listed).contains i = true := by kernel_rfl) (hQ : ∀ c a w, Q (.panic c) (a.put oi.dst v) w → Q (.panic c) a w := by exact fun _ _ _ h => h)
    (hy : Region.wanted oi (yielded ops a.tmps) = true := by rfl) (hS : S w := by assumption)
    (hv : ∀ w, S w → (execOp a.eval oi).run P w = .ok (.value v) w := by (intro V hV; clear hV; go_simp; try rfl)) : wpAnyH P md ops Q S (fuel + 1) listed a w :=
  takeH t v hi hd hs hf hr hQ hy hv hS h
/-- an operation that is not wanted -/
theorem ts (i t : Nat) (h : wpAnyH P md ops Q S fuel (listed.setIfInBounds i true) ⟨a.tmps.setIfInBounds t undef, a.defers⟩ w)
    (hi : ops[i]? = some oi := by rfl) (hd : oi.dst = some t := by rfl) (hs : Region.noSelect ops = true := by kernel_rfl) (hf : Region.free md ops listed i = true := by kernel_rfl)
    (hr : (Region.ready md ops listed).contains i = true := by kernel_rfl) (hQ : ∀ c a w, Q (.panic c) (a.put oi.dst undef) w → Q (.panic c) a w := by exact fun _ _ _ h => h)
    (hy : Region.wanted oi (yielded ops a.tmps) = false := by rfl) (hS : S w := by assumption) : wpAnyH P md ops Q S (fuel + 1) listed a w :=
  takeS t hi hd hs hf hr hQ hy hS h
end
abbrev zob : Array Value := #[.int .i64 0, .string ⟨#[]⟩, .int .i64 0, .int .i64 0, .bool false, .slice none 0 0, .slice none 0 0, .slice none 0 0, .string ⟨#[]⟩, .int .i64 0, .int .i64 0, .slice none 0 0, .slice none 0 0, .string ⟨#[]⟩, .string ⟨#[]⟩, .int .i64 0, .string ⟨#[]⟩, .string ⟨#[]⟩, .string ⟨#[]⟩]
theorem oc_at (x : Nat) (o : Ob) (f l c p i : Sl) : (∀ V : World, V.heap[x]? = some (.cells (oc o f l c p i) 32 (0, 0)) → V.cell? ⟨x, 0, none⟩ = some (.int .i64 o.kind)) ∧ (∀ V : World, V.heap[x]? = some (.cells (oc o f l c p i) 32 (0, 0)) → V.cell? ⟨x, 1, none⟩ = some (.string o.name)) ∧ (∀ V : World, V.heap[x]? = some (.cells (oc o f l c p i) 32 (0, 0)) → V.cell? ⟨x, 2, none⟩ = some (.int .i64 o.uid)) ∧ (∀ V : World, V.heap[x]? = some (.cells (oc o f l c p i) 32 (0, 0)) → V.cell? ⟨x, 3, none⟩ = some (.int .i64 o.version)) ∧ (∀ V : World, V.heap[x]? = some (.cells (oc o f l c p i) 32 (0, 0)) → V.cell? ⟨x, 4, none⟩ = some (.bool o.deleting)) ∧ (∀ V : World, V.heap[x]? = some (.cells (oc o f l c p i) 32 (0, 0)) → V.cell? ⟨x, 5, none⟩ = some (.slice f.A o.fins.length f.c)) ∧ (∀ V : World, V.heap[x]? = some (.cells (oc o f l c p i) 32 (0, 0)) → V.cell? ⟨x, 6, none⟩ = some (.slice l.A o.labels.length l.c)) ∧ (∀ V : World, V.heap[x]? = some (.cells (oc o f l c p i) 32 (0, 0)) → V.cell? ⟨x, 7, none⟩ = some (.slice c.A o.cidrs.length c.c)) ∧ (∀ V : World, V.heap[x]? = some (.cells (oc o f l c p i) 32 (0, 0)) → V.cell? ⟨x, 8, none⟩ = some (.string o.status)) ∧ (∀ V : World, V.heap[x]? = some (.cells (oc o f l c p i) 32 (0, 0)) → V.cell? ⟨x, 9, none⟩ = some (.int .i64 o.type)) ∧ (∀ V : World, V.heap[x]? = some (.cells (oc o f l c p i) 32 (0, 0)) → V.cell? ⟨x, 10, none⟩ = some (.int .i64 o.policy)) ∧ (∀ V : World, V.heap[x]? = some (.cells (oc o f l c p i) 32 (0, 0)) → V.cell? ⟨x, 11, none⟩ = some (.slice p.A o.fams.length p.c)) ∧ (∀ V : World, V.heap[x]? = some (.cells (oc o f l c p i) 32 (0, 0)) → V.cell? ⟨x, 12, none⟩ = some (.slice i.A o.ips.length i.c)) ∧ (∀ V : World, V.heap[x]? = some (.cells (oc o f l c p i) 32 (0, 0)) → V.cell? ⟨x, 13, none⟩ = some (.string o.v4)) ∧ (∀ V : World, V.heap[x]? = some (.cells (oc o f l c p i) 32 (0, 0)) → V.cell? ⟨x, 14, none⟩ = some (.string o.v6)) ∧ (∀ V : World, V.heap[x]? = some (.cells (oc o f l c p i) 32 (0, 0)) → V.cell? ⟨x, 15, none⟩ = some (.int .i64 o.bits)) ∧ (∀ V : World, V.heap[x]? = some (.cells (oc o f l c p i) 32 (0, 0)) → V.cell? ⟨x, 16, none⟩ = some (.string o.sel)) ∧ (∀ V : World, V.heap[x]? = some (.cells (oc o f l c p i) 32 (0, 0)) → V.cell? ⟨x, 17, none⟩ = some (.string o.about)) ∧ (∀ V : World, V.heap[x]? = some (.cells (oc o f l c p i) 32 (0, 0)) → V.cell? ⟨x, 18, none⟩ = some (.string o.reason)) := by
  refine ⟨?_, ?_, ?_, ?_, ?_, ?_, ?_, ?_, ?_, ?_, ?_, ?_, ?_, ?_, ?_, ?_, ?_, ?_, ?_⟩ <;> (intro V hV; simp [World.cell?, hV, oc])
end Go.Proofs.Ytolndeolehkjoaa
