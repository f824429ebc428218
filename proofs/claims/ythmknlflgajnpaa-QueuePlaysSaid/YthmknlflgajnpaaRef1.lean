/- The reference's queue in memory: five rows behind one struct. -/
import Derived.Test.YthmknlflgajnpaaNil1
namespace Go.Proofs.Ythmknlflgajnpaa
open Go.RowKit
/-- a name and a number -/
structure Fl where
  ref : Ref
  n : Int
  deriving DecidableEq
def fc (x : Fl) : List Value := [.int .i64 x.ref.kind, .string x.ref.name, .int .i64 x.n]
/-- the reference's queue -/
structure RS where
  base : Int
  most : Int
  now : Int
  line : List Ref
  marked : List Ref
  busy : List Ref
  waits : List Item
  fails : List Fl
def RS.xs (s : RS) (i : Fin 5) : List Value := match i with
  | 0 => s.line.flatMap rc | 1 => s.marked.flatMap rc | 2 => s.busy.flatMap rc | 3 => s.waits.flatMap ic | 4 => s.fails.flatMap fc
def RS.n (s : RS) (i : Fin 5) : Nat := match i with
  | 0 => s.line.length | 1 => s.marked.length | 2 => s.busy.length | 3 => s.waits.length | 4 => s.fails.length
def ret (i : Fin 5) : Nat := match i with
  | 0 => 30 | 1 => 30 | 2 => 30 | 3 => 78 | 4 => 70
def rsz (i : Fin 5) : Nat := match i with
  | 0 => 2 | 1 => 2 | 2 => 2 | 3 => 3 | 4 => 3
abbrev RV := Fin 5 → Value
def RV.set (v : RV) (i : Fin 5) (x : Value) : RV := fun j => if j = i then x else v j
def rcells (s : RS) (v : RV) : Array Value := #[.int .i64 s.base, .int .i64 s.most, .int .i64 s.now, v 0, v 1, v 2, v 3, v 4]
def RFoot (rb : Nat) (v : RV) (j : Nat) : Prop := j = rb ∨ ∃ i, (v i).ownBlock = some j
structure RInv (B rb : Nat) (s : RS) (v : RV) (w : World) : Prop where
  cells : w.heap[rb]? = some (.cells (rcells s v) 50 (0, 0))
  hB : B ≤ rb
  rows : ∀ i, w.ownsRow B (ret i) (rsz i) (v i) (s.n i) (s.xs i)
  apart : ∀ i j, i ≠ j → ∀ b, (v i).ownBlock = some b → (v j).ownBlock ≠ some b
theorem RInv.off {B rb : Nat} {s : RS} {v : RV} {w : World} (h : RInv B rb s v w) (i : Fin 5) : (v i).ownBlock ≠ some rb := fun e => by
  obtain ⟨c, hc⟩ := owns_block (h.rows i) e
  refine cells_not hc h.cells ?_ rfl
  match i with
  | 0 => decide | 1 => decide | 2 => decide | 3 => decide | 4 => decide
theorem RInv.lt {B rb : Nat} {s : RS} {v : RV} {w : World} (h : RInv B rb s v w) : rb < w.heap.size := (Array.getElem?_eq_some_iff.1 h.cells).1
theorem RInv.foot_lt {B rb : Nat} {s : RS} {v : RV} {w : World} (h : RInv B rb s v w) {j : Nat} (hj : RFoot rb v j) : j < w.heap.size := by
  rcases hj with rfl | ⟨i, hi⟩
  · exact h.lt
  · exact owns_lt (h.rows i) hi
theorem RInv.foot_B {B rb : Nat} {s : RS} {v : RV} {w : World} (h : RInv B rb s v w) {j : Nat} (hj : RFoot rb v j) : B ≤ j := by
  rcases hj with rfl | ⟨i, hi⟩
  · exact h.hB
  · exact G.owns_base (h.rows i) j hi
theorem RInv.keep {B rb : Nat} {s : RS} {v : RV} {w w1 : World} (h : RInv B rb s v w) (hk : ∀ j, RFoot rb v j → w1.heap[j]? = w.heap[j]?) : RInv B rb s v w1 :=
  ⟨(hk rb (.inl rfl)).trans h.cells, h.hB, fun i => owns_kept (h.rows i) fun j hj => hk j (.inr ⟨i, hj⟩), h.apart⟩
theorem RInv.below {B rb : Nat} {s : RS} {v : RV} {w w1 : World} (h : RInv B rb s v w) (hb : Below w.heap.size w w1) : RInv B rb s v w1 := h.keep fun j hj => hb.block j (h.foot_lt hj)
theorem RInv.cell {B rb : Nat} {s : RS} {v : RV} {w : World} (h : RInv B rb s v w) (i : Nat) : w.cell? ⟨rb, i, none⟩ = (rcells s v)[i]? := by simp [World.cell?, h.cells]
theorem RInv.free {B rb : Nat} {s : RS} {v : RV} {w : World} (h : RInv B rb s v w) (i : Nat) : w.frozen? ⟨rb, i, none⟩ = false := by simp [World.frozen?, h.cells]
theorem RInv.c0 {B rb : Nat} {s : RS} {v : RV} {w : World} (h : RInv B rb s v w) : w.cell? ⟨rb, 0, none⟩ = some (.int .i64 s.base) := by rw [h.cell]; rfl
theorem RInv.c1 {B rb : Nat} {s : RS} {v : RV} {w : World} (h : RInv B rb s v w) : w.cell? ⟨rb, 1, none⟩ = some (.int .i64 s.most) := by rw [h.cell]; rfl
theorem RInv.c2 {B rb : Nat} {s : RS} {v : RV} {w : World} (h : RInv B rb s v w) : w.cell? ⟨rb, 2, none⟩ = some (.int .i64 s.now) := by rw [h.cell]; rfl
theorem RInv.c3 {B rb : Nat} {s : RS} {v : RV} {w : World} (h : RInv B rb s v w) : w.cell? ⟨rb, 3, none⟩ = some (v 0) := by rw [h.cell]; rfl
theorem RInv.c4 {B rb : Nat} {s : RS} {v : RV} {w : World} (h : RInv B rb s v w) : w.cell? ⟨rb, 4, none⟩ = some (v 1) := by rw [h.cell]; rfl
theorem RInv.c5 {B rb : Nat} {s : RS} {v : RV} {w : World} (h : RInv B rb s v w) : w.cell? ⟨rb, 5, none⟩ = some (v 2) := by rw [h.cell]; rfl
theorem RInv.c6 {B rb : Nat} {s : RS} {v : RV} {w : World} (h : RInv B rb s v w) : w.cell? ⟨rb, 6, none⟩ = some (v 3) := by rw [h.cell]; rfl
theorem RInv.c7 {B rb : Nat} {s : RS} {v : RV} {w : World} (h : RInv B rb s v w) : w.cell? ⟨rb, 7, none⟩ = some (v 4) := by rw [h.cell]; rfl
/-- a call on the reference's queue has turned it into s' -/
def RStep (B rb : Nat) (v : RV) (w : World) (s' : RS) (w' : World) : Prop :=
  ∃ v', RInv B rb s' v' w' ∧ (∀ j, RFoot rb v' j → RFoot rb v j ∨ w.heap.size ≤ j) ∧ Fr (RFoot rb v) w w'
theorem RStep.of {B rb : Nat} {s' : RS} {v : RV} {w w' : World} (h : RInv B rb s' v w') (hf : Fr (RFoot rb v) w w') : RStep B rb v w s' w' := ⟨v, h, fun _ hj => .inl hj, hf⟩
theorem RStep.from' {B rb : Nat} {s' : RS} {v : RV} {w w1 w' : World} (hf : Fr (RFoot rb v) w w1) (h : RStep B rb v w1 s' w') : RStep B rb v w s' w' := by
  obtain ⟨v', h1, h2, h3⟩ := h
  exact ⟨v', h1, fun j hj => (h2 j hj).imp id (fun h => Nat.le_trans hf.size h), hf.trans h3 (fun j hj => .inl hj)⟩
theorem RStep.then {B rb : Nat} {s1 s2 : RS} {v : RV} {w w1 w2 : World} (h : RStep B rb v w s1 w1) (k : ∀ v1, RInv B rb s1 v1 w1 → RStep B rb v1 w1 s2 w2) : RStep B rb v w s2 w2 := by
  obtain ⟨v1, h1, h2, h3⟩ := h
  obtain ⟨v2, k1, k2, k3⟩ := k v1 h1
  refine ⟨v2, k1, fun j hj => ?_, h3.trans k3 h2⟩
  rcases k2 j hj with h4 | h4
  · exact h2 j h4
  · exact .inr (Nat.le_trans h3.size h4)
theorem RStep.below {B rb : Nat} {s s1 : RS} {v : RV} {w0 w w1 : World} (h : RInv B rb s v w) (hb : Below B w0 w) (k : RStep B rb v w s1 w1) : Below B w0 w1 := by
  obtain ⟨v1, h1, h2, h3⟩ := k
  exact Fr.below hb (Nat.le_trans h.hB (Nat.le_of_lt h.lt)) h3 (fun _ hj => h.foot_B hj)
/-- one row is another one, its cell stored -/
theorem RInv.set {B rb : Nat} {s s' : RS} {v : RV} {w w1 : World} (h : RInv B rb s v w) (i : Fin 5) (x : Value) (hg : w.grownBy w1 (v i).ownBlock) (ho : w1.ownsRow B (ret i) (rsz i) x (s'.n i) (s'.xs i))
    (hx : ∀ j, x.ownBlock = some j → (v i).ownBlock = some j ∨ w.heap.size ≤ j) (hs : s'.base = s.base ∧ s'.most = s.most ∧ s'.now = s.now) (hn : ∀ k, k ≠ i → s'.n k = s.n k ∧ s'.xs k = s.xs k) :
    RStep B rb v w s' (w1.setCell ⟨rb, 3 + i.val, none⟩ x) := by
  have kp : ∀ j, j ≠ rb → (w1.setCell ⟨rb, 3 + i.val, none⟩ x).heap[j]? = w1.heap[j]? := fun j hj => Below.heap_setCell _ _ _ _ hj
  have kg : ∀ j, j < w.heap.size → (v i).ownBlock ≠ some j → w1.heap[j]? = w.heap[j]? := fun j hj hne => hg.block j hj (fun e => hne e.symm)
  have hrb : w1.heap[rb]? = some (.cells (rcells s v) 50 (0, 0)) := (kg rb h.lt (h.off i)).trans h.cells
  have hxr : x.ownBlock ≠ some rb := fun e => by
    obtain ⟨c, hc⟩ := owns_block ho e
    refine cells_not hc hrb ?_ rfl
    match i with
    | 0 => decide | 1 => decide | 2 => decide | 3 => decide | 4 => decide
  refine ⟨v.set i x, ⟨?_, h.hB, fun k => ?_, fun k l hkl b hb e => ?_⟩, fun j hj => ?_, ?_⟩
  · rw [heap_setCell_same _ _ _ _ _ _ hrb]
    obtain ⟨a1, a2, a3⟩ := hs
    refine congrArg (fun c => some (Obj.cells c 50 (0, 0))) ?_
    match i with
    | 0 => simp [rcells, RV.set, a1, a2, a3]
    | 1 => simp [rcells, RV.set, a1, a2, a3]
    | 2 => simp [rcells, RV.set, a1, a2, a3]
    | 3 => simp [rcells, RV.set, a1, a2, a3]; rfl
    | 4 => simp [rcells, RV.set, a1, a2, a3]; rfl
  · unfold RV.set
    by_cases hk : k = i
    · subst hk
      rw [if_pos rfl]
      exact owns_kept ho fun j hj => kp j (fun e => hxr (e ▸ hj))
    · rw [if_neg hk, (hn k hk).1, (hn k hk).2]
      exact owns_kept (h.rows k) fun j hj => (kp j (fun e => h.off k (e ▸ hj))).trans (kg j (owns_lt (h.rows k) hj) (fun e => h.apart i k (fun e => hk e.symm) j e hj))
  · unfold RV.set at hb e
    by_cases hk : k = i
    · rw [if_pos hk] at hb
      have hl : l ≠ i := fun e => hkl (hk.trans e.symm)
      rw [if_neg hl] at e
      rcases hx b hb with h1 | h1
      · exact h.apart i l (fun e => hl e.symm) b h1 e
      · have := owns_lt (h.rows l) e; omega
    · rw [if_neg hk] at hb
      by_cases hl : l = i
      · rw [if_pos hl] at e
        rcases hx b e with h1 | h1
        · exact h.apart k i hk b hb h1
        · have := owns_lt (h.rows k) hb; omega
      · rw [if_neg hl] at e
        exact h.apart k l hkl b hb e
  · rcases hj with rfl | ⟨k, hk⟩
    · exact .inl (.inl rfl)
    · unfold RV.set at hk
      by_cases hki : k = i
      · rw [if_pos hki] at hk
        rcases hx j hk with h1 | h1
        · exact .inl (.inr ⟨i, h1⟩)
        · exact .inr h1
      · rw [if_neg hki] at hk
        exact .inl (.inr ⟨k, hk⟩)
  · refine ⟨hg.os, hg.tape, hg.output, ?_, fun j hj hF => ?_⟩
    · have := hg.size
      simpa [World.setCell] using this
    · exact (kp j (fun e => hF (.inl e))).trans (kg j hj (fun e => hF (.inr ⟨i, e⟩)))
theorem rinfo (i : Fin 5) : ∃ z bytes, (Try.prog.info? (ret i)).map (fun t => (t.zero, t.size, t.bytes)) = some (some z, rsz i, bytes) ∧ z.cells.size = rsz i ∧ bytes ≤ 64 := by
  match i with
  | 0 => exact ⟨_, 24, info30, rfl, by decide⟩
  | 1 => exact ⟨_, 24, info30, rfl, by decide⟩
  | 2 => exact ⟨_, 24, info30, rfl, by decide⟩
  | 3 => exact ⟨.agg #[.int .i64 0, .int .i64 0, .string ByteArray.empty], 32, by kernel_rfl, rfl, by decide⟩
  | 4 => exact ⟨.agg #[.int .i64 0, .string ByteArray.empty, .int .i64 0], 32, by kernel_rfl, rfl, by decide⟩
def rst (i : Fin 5) : Nat := match i with
  | 0 => 28 | 1 => 28 | 2 => 28 | 3 => 47 | 4 => 48
theorem runder (i : Fin 5) : Try.prog.underlying (rst i) = some (.slice (ret i)) := by
  match i with
  | 0 => exact Try.underlying28
  | 1 => exact Try.underlying28
  | 2 => exact Try.underlying28
  | 3 => exact Try.underlying47
  | 4 => exact Try.underlying48
/-- one element more behind a row: what append leaves, and the store of it -/
theorem RInv.app {B rb : Nat} {s : RS} {v : RV} {w : World} (h : RInv B rb s v w) (i : Fin 5) (ys : List Value) (hys : ys.length = rsz i) (h1 : ∀ u ∈ ys, u.oneCell' = true) (hl : s.n i ≤ 1000000) (ty : TypeId) (s' : RS)
    (hs : s'.base = s.base ∧ s'.most = s.most ∧ s'.now = s.now) (hn : ∀ k, k ≠ i → s'.n k = s.n k ∧ s'.xs k = s.xs k) (hi : s'.n i = s.n i + 1 ∧ s'.xs i = s.xs i ++ ys) :
    ∃ g c w1, (Builtin.append_ #[rst i, rst i] ty #[v i, .slice (some ⟨w.heap.size, 0, none⟩) 1 1]).run Try.prog (w.alloc (.cells ys.toArray (ret i))).drew = .ok (.slice (some ⟨g, 0, none⟩) (s.n i + 1) c) w1 ∧
      w1.cell? ⟨rb, 3 + i.val, none⟩ = some (v i) ∧ w1.frozen? ⟨rb, 3 + i.val, none⟩ = false ∧
      RStep B rb v w s' (w1.setCell ⟨rb, 3 + i.val, none⟩ (.slice (some ⟨g, 0, none⟩) (s.n i + 1) c)) := by
  obtain ⟨z, bytes, hz1, hz2, hz3⟩ := rinfo i
  have hp : 0 < rsz i := by match i with | 0 => decide | 1 => decide | 2 => decide | 3 => decide | 4 => decide
  have hby : (s.n i + 1) * bytes ≤ 140737488355328 := Nat.le_trans (Nat.mul_le_mul (show s.n i + 1 ≤ 1000001 by omega) hz3) (by decide)
  obtain ⟨fg, fcp, fw, hf⟩ := G.app_fn (P := Try.prog) (rst i) (ret i) ty B (rsz i) bytes z (runder i) hz1 hz2 hp (v i) (s.n i) (s.xs i) ys hys h1 (h.rows i) (Nat.le_trans h.hB (Nat.le_of_lt h.lt)) (by unfold maxLen; omega) hby
  obtain ⟨f1, f2, f3, f4⟩ := hf 1
  have hrb : (fw 1).heap[rb]? = some (.cells (rcells s v) 50 (0, 0)) := (f3.block rb h.lt (fun e => h.off i e.symm)).trans h.cells
  refine ⟨fg 1, fcp 1, fw 1, f1, ?_, by simp [World.frozen?, hrb], h.set i _ f3 (by rw [hi.1, hi.2]; exact f2) (fun j hj => ?_) hs hn⟩
  · simp only [World.cell?, hrb]
    match i with
    | 0 => rfl
    | 1 => rfl
    | 2 => rfl
    | 3 => rfl
    | 4 => rfl
  · have : fg 1 = j := by simpa [Value.ownBlock] using hj
    rw [← this]; exact f4
end Go.Proofs.Ythmknlflgajnpaa
