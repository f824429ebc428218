/- The reference's queue: what is carried through a walk. -/
import Derived.Test.YthmknlflgajnpaaRef2
namespace Go.Proofs.Ythmknlflgajnpaa
open Go.RowKit
structure RRun (B rb : Nat) (v0 : RV) (w0 : World) (s : RS) (v : RV) (z : World) : Prop where
  inv : RInv B rb s v z
  foot : ∀ j, RFoot rb v j → RFoot rb v0 j ∨ w0.heap.size ≤ j
  fr : Fr (RFoot rb v0) w0 z
theorem RRun.start {B rb : Nat} {s : RS} {v : RV} {w : World} (h : RInv B rb s v w) : RRun B rb v w s v w := ⟨h, fun _ hj => .inl hj, Fr.refl _ _⟩
theorem RRun.below {B rb : Nat} {v0 v : RV} {w0 z z' : World} {s : RS} (h : RRun B rb v0 w0 s v z) (hb : Below z.heap.size z z') : RRun B rb v0 w0 s v z' :=
  ⟨h.inv.below hb, h.foot, h.fr.trans (F := RFoot rb v0) (Fr.of_below (F := RFoot rb v0) hb) (fun _ hj => .inl hj)⟩
theorem RRun.done {B rb : Nat} {v0 v : RV} {w0 z : World} {s : RS} (h : RRun B rb v0 w0 s v z) : RStep B rb v0 w0 s z := ⟨v, h.inv, h.foot, h.fr⟩
structure RAt (rb : Nat) (v : RV) (w : World) (A : Nat) (o : Obj) : Prop where
  lt : A < w.heap.size
  off : ¬ RFoot rb v A
  is : w.heap[A]? = some o
theorem RAt.below {rb : Nat} {v : RV} {w w1 : World} {A : Nat} {o : Obj} (h : RAt rb v w A o) (hb : Below w.heap.size w w1) : RAt rb v w1 A o := ⟨Nat.lt_of_lt_of_le h.lt hb.size, h.off, (hb.block A h.lt).trans h.is⟩
theorem RAt.new {B rb : Nat} {s : RS} {v : RV} {w : World} (h : RInv B rb s v w) (o : Obj) : RAt rb v (w.alloc o) w.heap.size o :=
  ⟨by simp, fun hf => Nat.lt_irrefl _ (h.foot_lt hf), G.heap_new _ _⟩
abbrev refBox (r : Ref) : Obj := .cells #[.int .i64 r.kind, .string r.name] 30 (0, 0)
theorem RAt.k {rb : Nat} {v : RV} {w : World} {A : Nat} {r : Ref} (h : RAt rb v w A (refBox r)) : w.cell? ⟨A, 0, none⟩ = some (.int .i64 r.kind) := by simp [World.cell?, h.is]
theorem RAt.nm {rb : Nat} {v : RV} {w : World} {A : Nat} {r : Ref} (h : RAt rb v w A (refBox r)) : w.cell? ⟨A, 1, none⟩ = some (.string r.name) := by simp [World.cell?, h.is]
theorem RRun.step {B rb : Nat} {v0 v : RV} {w0 z z' : World} {s s' : RS} (h : RRun B rb v0 w0 s v z) (k : RStep B rb v z s' z') :
    ∃ v', RRun B rb v0 w0 s' v' z' ∧ ∀ A o, RAt rb v z A o → RAt rb v' z' A o := by
  obtain ⟨v', k1, k2, k3⟩ := k
  refine ⟨v', ⟨k1, fun j hj => ?_, h.fr.trans k3 h.foot⟩, fun A o hA => ⟨Nat.lt_of_lt_of_le hA.lt k3.size, fun hf => ?_, (k3.block A hA.lt hA.off).trans hA.is⟩⟩
  · rcases k2 j hj with h5 | h5
    · exact h.foot j h5
    · exact .inr (Nat.le_trans h.fr.size h5)
  · rcases k2 A hf with h5 | h5
    · exact hA.off h5
    · have := hA.lt; omega
theorem RInv.has {B rb : Nat} {s : RS} {v : RV} {w : World} (h : RInv B rb s v w) (r : Ref) (hl : ∀ i, s.n i ≤ 1000000) : ∀ V, Below w.heap.size w V →
    (Calls Try.prog 10 #[v 0, rv r] V fun e w' => e = .returned (.bool (decide (r ∈ s.line))) ∧ Below V.heap.size V w') ∧
    (Calls Try.prog 10 #[v 1, rv r] V fun e w' => e = .returned (.bool (decide (r ∈ s.marked))) ∧ Below V.heap.size V w') ∧
    (Calls Try.prog 10 #[v 2, rv r] V fun e w' => e = .returned (.bool (decide (r ∈ s.busy))) ∧ Below V.heap.size V w') := fun V hb =>
  ⟨has_any (v 0) s.line r V (Row.of_owns ((h.below hb).rows 0)) (hl 0), has_any (v 1) s.marked r V (Row.of_owns ((h.below hb).rows 1)) (hl 1), has_any (v 2) s.busy r V (Row.of_owns ((h.below hb).rows 2)) (hl 2)⟩
theorem owns_shape {w : World} {B e size n : Nat} {v : Value} {xs : List Value} (h : w.ownsRow B e size v n xs) : ∃ A c, v = .slice A n c := by
  obtain ⟨_, ⟨rfl, rfl⟩ | ⟨g, c, _, rfl, _⟩⟩ := h
  · exact ⟨none, 0, rfl⟩
  · exact ⟨_, c, rfl⟩
/-- what Without leaves, written out -/
def Wo (V : World) (l : List Ref) (r : Ref) (e : Ending) (w' : World) : Prop :=
  ∃ A c, e = .returned (.slice A (wo l r).length c) ∧ w'.ownsRow V.heap.size 30 2 (.slice A (wo l r).length c) (wo l r).length ((wo l r).flatMap rc) ∧ Below V.heap.size V w'
theorem without_shaped (v : Value) (l : List Ref) (r : Ref) (w : World) (h : Row w v l) (hl : l.length ≤ 1000000) : Calls Try.prog 13 #[v, rv r] w fun e w' => Wo w l r e w' := by
  refine (without_any v l r w h hl).mono ?_
  rintro e w' ⟨x, rfl, ho, hb⟩
  obtain ⟨A, c, rfl⟩ := owns_shape ho
  exact ⟨A, c, rfl, ho, hb⟩
theorem RInv.without {B rb : Nat} {s : RS} {v : RV} {w : World} (h : RInv B rb s v w) (r : Ref) (hl : ∀ i, s.n i ≤ 1000000) : ∀ V, Below w.heap.size w V →
    (Calls Try.prog 13 #[v 0, rv r] V fun e w' => Wo V s.line r e w') ∧
    (Calls Try.prog 13 #[v 1, rv r] V fun e w' => Wo V s.marked r e w') ∧
    (Calls Try.prog 13 #[v 2, rv r] V fun e w' => Wo V s.busy r e w') := fun V hb =>
  ⟨without_shaped (v 0) s.line r V (Row.of_owns ((h.below hb).rows 0)) (hl 0), without_shaped (v 1) s.marked r V (Row.of_owns ((h.below hb).rows 1)) (hl 1), without_shaped (v 2) s.busy r V (Row.of_owns ((h.below hb).rows 2)) (hl 2)⟩
/-- a row that is new is stored -/
theorem RInv.new {B rb : Nat} {s : RS} {v : RV} {w w1 : World} (h : RInv B rb s v w) (i : Fin 5) (x : Value) (s' : RS) (hb : Below w.heap.size w w1) (ho : w1.ownsRow w.heap.size (ret i) (rsz i) x (s'.n i) (s'.xs i))
    (hs : s'.base = s.base ∧ s'.most = s.most ∧ s'.now = s.now) (hn : ∀ k, k ≠ i → s'.n k = s.n k ∧ s'.xs k = s.xs k) : RStep B rb v w s' (w1.setCell ⟨rb, 3 + i.val, none⟩ x) :=
  h.set i x ⟨hb.os, hb.tape, hb.output, hb.size, fun j hj _ => hb.block j hj⟩ (owns_base_le ho (Nat.le_trans h.hB (Nat.le_of_lt h.lt))) (fun j hj => .inr (G.owns_base ho j hj)) hs hn
def rdoneS (s : RS) (r : Ref) : RS :=
  if r ∈ s.busy then (if r ∈ s.marked then { s with busy := wo s.busy r, line := s.line ++ [r] } else { s with busy := wo s.busy r }) else s
def rgetS (s : RS) : RS := match s.line with
  | [] => s
  | r :: _ => { s with line := wo s.line r, marked := wo s.marked r, busy := s.busy ++ [r] }
end Go.Proofs.Ythmknlflgajnpaa
