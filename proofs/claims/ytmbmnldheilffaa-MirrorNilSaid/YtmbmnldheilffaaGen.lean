/- Small laws that the walks of this seat share: rows of cells that are read, rows that the call owns, appends, worlds. No program. -/
import Derived.WalkKit
import Derived.RowKit
import Derived.Lib.Hide
import Derived.Maps.AppendAt
import Derived.Deep.QuietTactic
import Derived.BigQuiet
import Derived.Deep.RegionWith
namespace Go.Proofs.Ytmbmnldheilffaa.G
open Go.RowKit

/-! ### endings -/
theorem ret_int {k : IntKind} {a b : Int} (h : a = b) : Ending.returned (.int k a) = .returned (.int k b) := by rw [h]
theorem ret_bool {a b : Bool} (h : a = b) : Ending.returned (.bool a) = .returned (.bool b) := by rw [h]
theorem ret_str {a b : ByteArray} (h : a = b) : Ending.returned (.string a) = .returned (.string b) := by rw [h]

/-! ### worlds -/
theorem bthen {w w1 w2 : World} (h : Below w.heap.size w w1) (k : Below w1.heap.size w1 w2) : Below w.heap.size w w2 :=
  h.trans ⟨k.os, k.tape, k.output, k.size, fun i hi => k.block i (Nat.lt_of_lt_of_le hi h.size)⟩
theorem bthen' {B : Nat} {w w1 w2 : World} (h : Below B w w1) (hB : B ≤ w1.heap.size) (k : Below w1.heap.size w1 w2) : Below B w w2 :=
  h.trans ⟨k.os, k.tape, k.output, k.size, fun i hi => k.block i (Nat.lt_of_lt_of_le hi hB)⟩
theorem bdrewN {B : Nat} {a w : World} (h : Below B a w) (n : Nat) : Below B a (w.drewN n) := ⟨h.os, h.tape, h.output, h.size, h.block⟩
theorem bdrew {B : Nat} {a w : World} (h : Below B a w) : Below B a w.drew := ⟨h.os, h.tape, h.output, h.size, h.block⟩
theorem undraw {w w1 : World} {n : Nat} (h : Below (w.drewN n).heap.size (w.drewN n) w1) : Below w.heap.size w w1 := ⟨h.os, h.tape, h.output, h.size, h.block⟩
theorem heap_new (W : World) (o : Obj) : (W.alloc o).heap[W.heap.size]? = some o := by simp [World.alloc, -World.alloc_eq]
theorem cell_below {w w1 : World} (h : Below w.heap.size w w1) {a : Addr} {v : Value} (hc : w.cell? a = some v) : w1.cell? a = some v := (h.cell (World.block_lt_of_cell? w a hc)).trans hc
theorem add_plain (g i j : Nat) : (⟨g, i, none⟩ : Addr).add j = ⟨g, i + j, none⟩ := by unfold Addr.add; split <;> simp_all

/-! ### a row of cells behind a slice value: what is read -/
/-- v is a slice of n elements of so many cells each; the cells are cs -/
def HasRow (w : World) (size : Nat) (v : Value) (n : Nat) (cs : List Value) : Prop :=
  cs.length = n * size ∧ ∃ A c, v = .slice A n c ∧ n ≤ c ∧ c ≤ maxLen ∧ ∀ j u, cs[j]? = some u → ∃ ad, A = some ad ∧ w.cell? (ad.add j) = some u
theorem HasRow.below {w w1 : World} {size n : Nat} {v : Value} {cs : List Value} (h : HasRow w size v n cs) (hb : Below w.heap.size w w1) : HasRow w1 size v n cs := by
  obtain ⟨h1, A, c, hv, h2, h3, hc⟩ := h
  refine ⟨h1, A, c, hv, h2, h3, fun j u hj => ?_⟩
  obtain ⟨ad, ha, hcell⟩ := hc j u hj
  exact ⟨ad, ha, cell_below hb hcell⟩
theorem HasRow.cells {w w1 : World} {size n : Nat} {v : Value} {cs : List Value} (h : HasRow w size v n cs) (hb : ∀ a u, w.cell? a = some u → w1.cell? a = some u) : HasRow w1 size v n cs := by
  obtain ⟨h1, A, c, hv, h2, h3, hc⟩ := h
  refine ⟨h1, A, c, hv, h2, h3, fun j u hj => ?_⟩
  obtain ⟨ad, ha, hcell⟩ := hc j u hj
  exact ⟨ad, ha, hb _ _ hcell⟩
theorem HasRow.nil (w : World) (size : Nat) : HasRow w size (.slice none 0 0) 0 [] := ⟨by simp, none, 0, rfl, by omega, by decide, fun j u h => by simp at h⟩
/-- the shape of a row that is not empty -/
theorem HasRow.shape {w : World} {size n : Nat} {v : Value} {cs : List Value} (h : HasRow w size v n cs) (hn : 0 < n * size) : ∃ ad c, v = .slice (some ad) n c ∧ n ≤ c ∧ c ≤ maxLen ∧ ∀ j u, cs[j]? = some u → w.cell? (ad.add j) = some u := by
  obtain ⟨h1, A, c, hv, h2, h3, hc⟩ := h
  obtain ⟨ad, ha, _⟩ := hc 0 cs[0] (by rw [List.getElem?_eq_getElem (by omega)])
  subst ha
  refine ⟨ad, c, hv, h2, h3, fun j u hj => ?_⟩
  obtain ⟨ad', ha, hcell⟩ := hc j u hj
  obtain rfl : ad = ad' := by simpa using ha
  exact hcell
theorem HasRow.of_owns {w : World} {base e size n : Nat} {v : Value} {cs : List Value} (h : w.ownsRow base e size v n cs) : HasRow w size v n cs := by
  obtain ⟨hl, ⟨rfl, rfl⟩ | ⟨g, cap, cur, rfl, hb, hh, h1, h2, h3, h4⟩⟩ := h
  · simp at hl
    subst hl
    exact HasRow.nil w size
  · refine ⟨hl, some ⟨g, 0, none⟩, cap, rfl, h1, h2, fun j u hj => ⟨_, rfl, ?_⟩⟩
    have hjl : j < n * size := by
      rcases Nat.lt_or_ge j cs.length with hx | hx
      · omega
      · rw [List.getElem?_eq_none hx] at hj; simp at hj
    rw [add_plain, Nat.zero_add]
    simp only [World.cell?, hh]
    rw [← h4, List.getElem?_take, if_pos hjl] at hj
    simpa using hj

/-! ### rows that the call owns -/
theorem owns_nil (W : World) (base e size : Nat) : W.ownsRow base e size (.slice none 0 0) 0 [] := ⟨by simp, .inl ⟨rfl, rfl⟩⟩
theorem owns_base {w : World} {base e size n : Nat} {v : Value} {xs : List Value} (h : w.ownsRow base e size v n xs) (k : Nat) (hk : v.ownBlock = some k) : base ≤ k := by
  obtain ⟨_, ⟨rfl, rfl⟩ | ⟨g, cap, cur, rfl, hb, _⟩⟩ := h
  · simp [Value.ownBlock] at hk
  · have : g = k := by simpa [Value.ownBlock] using hk
    omega
theorem owns_below {w w1 : World} {base e size n : Nat} {v : Value} {xs : List Value} (h : w.ownsRow base e size v n xs) (hb : Below w.heap.size w w1) : w1.ownsRow base e size v n xs :=
  h.kept (row := none) ⟨hb.os, hb.tape, hb.output, hb.size, fun i hi _ => hb.block i hi⟩ (by cases v.ownBlock <;> simp)
/-- append(v, x), x one element whose cells ys stand in the block that was just made -/
theorem app_one {P : Program} {ops : Array Oper} {rest : List Oper} {o : Oper} {a : Act} {Q : Exit → Act → World → Prop} {W : World} (hgd : o.guard = none) (s x : Operand) (t e : TypeId)
    (ho : o.op = .call { callee := .builtin .append, args := #[s, x], argTypes := #[t, t] })
    (base size bytes : Nat) (z : Value) (ht : P.underlying t = some (.slice e)) (hinfo : (P.info? e).map (fun i => (i.zero, i.size, i.bytes)) = some (some z, size, bytes)) (hzs : z.cells.size = size) (hsz : 0 < size)
    (v : Value) (n : Nat) (xs ys : List Value) (hs : a.eval s = v) (hx : a.eval x = .slice (some ⟨W.heap.size, 0, none⟩) 1 1) (hys : ys.length = size) (h1 : ∀ u ∈ ys, u.oneCell' = true)
    (HO : W.ownsRow base e size v n xs) (hbase : base ≤ W.heap.size) (h63 : n + 1 ≤ maxLen) (hl : (n + 1) * bytes ≤ 140737488355328)
    (h : ∀ v1 w1, w1.ownsRow base e size v1 (n + 1) (xs ++ ys) → W.grownBy w1 v.ownBlock → wpList P ops Q rest (a.put o.dst v1) w1) :
    wpList P ops Q (o :: rest) a (W.alloc (.cells ys.toArray e)) := by
  obtain ⟨i0, hi, hzz⟩ := Option.map_eq_some_iff.1 hinfo
  simp only [Prod.mk.injEq] at hzz
  obtain ⟨hz0, hz1, hz2⟩ := hzz
  refine wpList_append_own (W.alloc (.cells ys.toArray e)) hgd s x t ho base e i0 z size bytes ht hi hz0 hz1 hz2 hzs hsz v n xs hs (HO.alloc _) ⟨W.heap.size, 0, none⟩ 1 1 ys hx (by omega) (fun j u hj => ?_) h1 h63 hl (by simp; omega) ?_
  · rw [add_plain, Nat.zero_add, World.cell?_alloc_new]
    simpa using hj
  · intro v1 w1 hown hg _
    exact h v1 w1 hown (World.grownBy.trans (World.grownBy_alloc W _ _) hg)
/-- the frame behind an append to a row that the call owns -/
theorem below_grown {B : Nat} {w0 W w1 : World} {e size n : Nat} {v : Value} {xs : List Value} (h : Below B w0 W) (hB : B ≤ W.heap.size) (HO : W.ownsRow B e size v n xs) (hg : W.grownBy w1 v.ownBlock) : Below B w0 w1 :=
  h.grown hg hB (owns_base HO)
/-- the same as equations, one for each count of draws: for a region that draws its order -/
theorem app_fn {P : Program} {W : World} (t e ty : TypeId) (base size bytes : Nat) (z : Value) (ht : P.underlying t = some (.slice e)) (hinfo : (P.info? e).map (fun i => (i.zero, i.size, i.bytes)) = some (some z, size, bytes)) (hzs : z.cells.size = size) (hsz : 0 < size)
    (v : Value) (n : Nat) (xs ys : List Value) (hys : ys.length = size) (h1 : ∀ u ∈ ys, u.oneCell' = true) (HO : W.ownsRow base e size v n xs) (hbase : base ≤ W.heap.size) (h63 : n + 1 ≤ maxLen) (hl : (n + 1) * bytes ≤ 140737488355328) :
    ∃ (fg fc : Nat → Nat) (fw : Nat → World), ∀ q, (Builtin.append_ #[t, t] ty #[v, .slice (some ⟨W.heap.size, 0, none⟩) 1 1]).run P ((W.alloc (.cells ys.toArray e)).drewN q) = .ok (.slice (some ⟨fg q, 0, none⟩) (n + 1) (fc q)) (fw q) ∧
      (fw q).ownsRow base e size (.slice (some ⟨fg q, 0, none⟩) (n + 1) (fc q)) (n + 1) (xs ++ ys) ∧ W.grownBy (fw q) v.ownBlock ∧ (v.ownBlock = some (fg q) ∨ W.heap.size ≤ fg q) := by
  obtain ⟨i0, hi, hzz⟩ := Option.map_eq_some_iff.1 hinfo
  simp only [Prod.mk.injEq] at hzz
  obtain ⟨hz0, hz1, hz2⟩ := hzz
  have key : ∀ q, ∃ (g c : Nat) (w1 : World), (Builtin.append_ #[t, t] ty #[v, .slice (some ⟨W.heap.size, 0, none⟩) 1 1]).run P ((W.alloc (.cells ys.toArray e)).drewN q) = .ok (.slice (some ⟨g, 0, none⟩) (n + 1) c) w1 ∧
      w1.ownsRow base e size (.slice (some ⟨g, 0, none⟩) (n + 1) c) (n + 1) (xs ++ ys) ∧ W.grownBy w1 v.ownBlock ∧ (v.ownBlock = some g ∨ W.heap.size ≤ g) := by
    intro q
    have HO' : ((W.alloc (.cells ys.toArray e)).drewN q).ownsRow base e size v n xs := HO.alloc _
    obtain ⟨v', w', hr, h2, h3, h4, h5⟩ := run_append_own_at (P := P) ((W.alloc (.cells ys.toArray e)).drewN q) base t ty e i0 z size bytes ht hi hz0 hz1 hz2 hzs hsz v n xs HO' ⟨W.heap.size, 0, none⟩ 1 1 ys (by omega) (fun j u hj => by
      rw [add_plain, Nat.zero_add, World.cell?_drewN, World.cell?_alloc_new]
      simpa using hj) h1 h63 hl (by simp; omega)
    obtain ⟨g, c, rfl⟩ : ∃ g c, v' = .slice (some ⟨g, 0, none⟩) (n + 1) c := by
      rcases h2.2 with ⟨_, h0⟩ | ⟨g, c, cur, hv, _⟩
      · omega
      · exact ⟨g, c, hv⟩
    refine ⟨g, c, w', hr, h2, World.grownBy.trans (World.grownBy_alloc W _ _) ⟨h3.os, h3.tape, h3.output, h3.size, h3.block⟩, ?_⟩
    rcases h5 with h5 | h5
    · exact .inl (by rw [← h5]; rfl)
    · refine .inr ?_
      have : g = ((W.alloc (.cells ys.toArray e)).drewN q).heap.size := by simpa [Value.ownBlock] using h5
      rw [this]; simp
  exact ⟨fun q => (key q).choose, fun q => (key q).choose_spec.choose, fun q => (key q).choose_spec.choose_spec.choose, fun q => (key q).choose_spec.choose_spec.choose_spec⟩
end Go.Proofs.Ytmbmnldheilffaa.G
