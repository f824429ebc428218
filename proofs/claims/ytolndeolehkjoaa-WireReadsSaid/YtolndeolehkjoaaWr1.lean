/- The writer of bytes: what it writes stands behind what was there, and nothing else turns. -/
import Derived.Test.YtolndeolehkjoaaBld2
import Derived.Test.YtolndeolehkjoaaRd8
namespace Go.Proofs.Ytolndeolehkjoaa
set_option linter.unusedVariables false
set_option linter.unusedSimpArgs false
open Go.RowKit CodP
/-- a builder in block b -/
structure Bd (T b : Nat) (l : List UInt8) (w : World) : Prop where
  is : ∃ p v, w.heap[b]? = some (.cells #[p, v] T (0, 0)) ∧ (p = .pointer none ∨ p = .pointer (some ⟨b, 0, none⟩)) ∧ w.ownsRow (b + 1) 5 1 v l.length (Lib.byteCells l)
theorem Bd.lt {T b : Nat} {l : List UInt8} {w : World} (h : Bd T b l w) : b < w.heap.size := by
  obtain ⟨p, v, h1, _⟩ := h.is
  exact (Array.getElem?_eq_some_iff.1 h1).1
/-- another block than the builder's two -/
def Off (b j : Nat) (w : World) : Prop := j < b ∨ (j ≠ b ∧ ∃ cs t fr, w.heap[j]? = some (.cells cs t fr) ∧ t ≠ 5)
/-- what a write leaves as it was -/
structure FrB (b : Nat) (w w' : World) : Prop where
  os : w'.os = w.os
  tape : w'.tape = w.tape
  output : w'.output = w.output
  size : w.heap.size ≤ w'.heap.size
  block : ∀ j, Off b j w → j < w.heap.size → w'.heap[j]? = w.heap[j]?
theorem FrB.below {b B : Nat} {w0 w w' : World} (h : FrB b w w') (hb : Below B w0 w) (hB : B ≤ b) (hw : B ≤ w.heap.size) : Below B w0 w' :=
  hb.trans ⟨h.os, h.tape, h.output, h.size, fun j hj => h.block j (.inl (by omega)) (by omega)⟩
theorem FrB.off {b j : Nat} {w w' : World} (h : FrB b w w') (ho : Off b j w) (hj : j < w.heap.size) : Off b j w' := by
  rcases ho with h1 | ⟨h1, cs, t, fr, h2, h3⟩
  · exact .inl h1
  · exact .inr ⟨h1, cs, t, fr, (h.block j (.inr ⟨h1, cs, t, fr, h2, h3⟩) hj).trans h2, h3⟩
theorem FrB.trans {b : Nat} {w w1 w2 : World} (h : FrB b w w1) (k : FrB b w1 w2) : FrB b w w2 :=
  ⟨k.os.trans h.os, k.tape.trans h.tape, k.output.trans h.output, Nat.le_trans h.size k.size, fun j hj hl => (k.block j (h.off hj hl) (Nat.lt_of_lt_of_le hl h.size)).trans (h.block j hj hl)⟩
theorem FrB.refl (b : Nat) (w : World) : FrB b w w := ⟨rfl, rfl, rfl, Nat.le_refl _, fun _ _ _ => rfl⟩
theorem FrB.of_below {b : Nat} {w w1 : World} (h : Below w.heap.size w w1) : FrB b w w1 := ⟨h.os, h.tape, h.output, h.size, fun j _ hj => h.block j hj⟩
theorem Bd.below {T b : Nat} {l : List UInt8} {w w1 : World} (h : Bd T b l w) (hb : Below w.heap.size w w1) : Bd T b l w1 := by
  obtain ⟨p, v, h1, h2, h3⟩ := h.is
  exact ⟨p, v, (hb.block b (Array.getElem?_eq_some_iff.1 h1).1).trans h1, h2, G.owns_below h3 hb⟩
theorem Bd.builder {T b : Nat} {l : List UInt8} {w : World} (h : Bd T b l w) : Lib.IsBuilder T 5 b b (Lib.byteCells l) w := by
  obtain ⟨p, v, h1, h2, h3⟩ := h.is
  have key : Lib.BuilderAt T 5 b b p (Lib.byteCells l) w := ⟨Nat.le_refl _, v, h1, by rw [Lib.byteCells_length]; exact owns_mono h3 (Nat.le_succ _), fun e => by have := G.owns_base h3 b e; omega⟩
  rcases h2 with rfl | rfl
  · exact .inl key
  · exact .inr key
theorem Bd.new (T : Nat) (w : World) : Bd T w.heap.size [] (w.alloc (.cells #[.pointer none, .slice none 0 0] T)) :=
  ⟨_, _, G.heap_new _ _, .inl rfl, G.owns_nil _ _ _ _⟩
/-- the check ahead of a write -/
theorem checkB (T : TypeId) (hT : B.Lies T) (b : Nat) (l : List UInt8) (w : World) (h : Bd T b l w) :
    Calls Try.prog 92 #[.pointer (some ⟨b, 0, none⟩)] w fun e w' => e = .returned (.tuple #[]) ∧ ∃ v, w'.heap[b]? = some (.cells #[.pointer (some ⟨b, 0, none⟩), v] T (0, 0)) ∧ w'.ownsRow (b + 1) 5 1 v l.length (Lib.byteCells l) ∧ FrB b w w' ∧ w'.heap.size = w.heap.size := by
  obtain ⟨p, v, h1, h2, h3⟩ := h.is
  have c0 : w.cell? ⟨b, 0, none⟩ = some p := by rw [Lib.cell_of_heap h1]; rfl
  rcases h2 with rfl | rfl
  · refine (B.check_fresh T hT b w c0 (by simp [World.shape?, h1]) (Lib.frozen_of_heap h1 0)).mono ?_
    rintro e w' ⟨rfl, rfl⟩
    refine ⟨rfl, v, ?_, ?_, ⟨rfl, rfl, rfl, by simp [World.setCell], fun j hj _ => Below.heap_setCell _ _ _ _ (by rcases hj with h | ⟨h, _⟩ <;> (simp only; omega))⟩, by simp [World.setCell]⟩
    · rw [heap_setCell_same _ _ _ _ _ _ h1]; rfl
    · exact owns_grown h3 (grown_set w b 0 _) (Nat.lt_succ_self _)
  · refine (B.check_used b w c0).mono ?_
    rintro e w' ⟨rfl, rfl⟩
    exact ⟨rfl, v, h1, h3, FrB.refl _ _, rfl⟩
theorem owns_type {w : World} {base e size n : Nat} {v : Value} {xs : List Value} (h : w.ownsRow base e size v n xs) (k : Nat) (hk : v.ownBlock = some k) : ∃ cur, w.heap[k]? = some (.cells cur e (0, 0)) := by
  rcases h.2 with ⟨rfl, _⟩ | ⟨g, cap, cur, rfl, _, hg, _⟩
  · simp [Value.ownBlock] at hk
  · simp [Value.ownBlock] at hk
    subst hk
    exact ⟨cur, hg⟩
theorem put_bd {T b : Nat} {l l' : List UInt8} {w w1 w2 : World} {v v' : Value} (hF : FrB b w w1) (hs : w1.heap.size = w.heap.size) (hbk : w1.heap[b]? = some (.cells #[.pointer (some ⟨b, 0, none⟩), v] T (0, 0)))
    (hown : w1.ownsRow (b + 1) 5 1 v l.length (Lib.byteCells l)) (hown' : w2.ownsRow (b + 1) 5 1 v' l'.length (Lib.byteCells l')) (hg : w1.grownBy w2 v.ownBlock) :
    Bd T b l' (w2.setCell ⟨b, 1, none⟩ v') ∧ FrB b w (w2.setCell ⟨b, 1, none⟩ v') := by
  have hb1 : b < w1.heap.size := (Array.getElem?_eq_some_iff.1 hbk).1
  have hb2 : w2.heap[b]? = some (.cells #[.pointer (some ⟨b, 0, none⟩), v] T (0, 0)) := by
    rw [hg.block b hb1 (fun e => by have := G.owns_base hown b e.symm; omega)]; exact hbk
  refine ⟨⟨.pointer (some ⟨b, 0, none⟩), v', ?_, .inr rfl, owns_grown hown' (grown_set w2 b 1 _) (Nat.lt_succ_self _)⟩, hF.trans ⟨hg.os, hg.tape, hg.output, ?_, fun j hj hl => ?_⟩⟩
  · rw [heap_setCell_same _ _ _ _ _ _ hb2]; rfl
  · have := hg.size; simp [World.setCell]; omega
  · have hjb : j ≠ b := by rcases hj with h | ⟨h, _⟩ <;> omega
    rw [Below.heap_setCell _ _ _ _ hjb]
    refine hg.block j hl (fun e => ?_)
    rcases hj with h | ⟨_, cs, t, fr, h1, h2⟩
    · have := G.owns_base hown j e.symm; omega
    · obtain ⟨cur, hc⟩ := owns_type hown j e.symm
      rw [hc] at h1
      injection h1 with h1
      injection h1 with _ h1
      exact h2 h1.symm
theorem byteCells_app (l m : List UInt8) : Lib.byteCells (l ++ m) = Lib.byteCells l ++ Lib.byteCells m := by simp [Lib.byteCells]
set_option maxHeartbeats 2000000 in
set_option maxRecDepth 100000 in
theorem wbyte_any (T : TypeId) (hT : B.Lies T) (b : Nat) (l : List UInt8) (c : UInt8) (w : World) (h : Bd T b l w) (hlen : l.length ≤ 1000000) :
    Calls Try.prog 94 #[.pointer (some ⟨b, 0, none⟩), .int .u8 c.toNat] w fun e w' => e = .returned .nilIface ∧ Bd T b (l ++ [c]) w' ∧ FrB b w w' := by
  have HB0 := Lib.hid h
  clear h
  go_enter Try.func94, Try.ntmps94
  go_wp2_with (fail)
  refine (checkB T hT b l _ HB0.out).mono ?_
  rintro e w1 ⟨rfl, v, hbk, hown, hF, hs⟩
  have c0 : w1.cell? ⟨b, 0, none⟩ = some (.pointer (some ⟨b, 0, none⟩)) := by rw [Lib.cell_of_heap hbk]; rfl
  have c1 : w1.cell? ⟨b, 1, none⟩ = some v := by rw [Lib.cell_of_heap hbk]; rfl
  have hl63 : l.length + 1 ≤ maxLen := by unfold maxLen; omega
  have hl16 : (l.length + 1) * 1 ≤ 140737488355328 := by omega
  have hBs : b + 1 ≤ w1.heap.size := Nat.succ_le_of_lt (Array.getElem?_eq_some_iff.1 hbk).1
  have HO := Lib.hid hown
  have HK := Lib.hid hbk
  have HF := Lib.hid hF
  have HS := Lib.hid hs
  clear hown hbk hF hs
  go_wp2_with (at_builtin; refine G.app_one rfl _ _ 67 5 rfl (b + 1) 1 1 _ Try.underlying67 B.infoByte rfl (by decide) v l.length (Lib.byteCells l) [.int .u8 c.toNat] rfl rfl rfl (by intro u hu; simp only [List.mem_singleton] at hu; subst hu; rfl) HO.out hBs hl63 hl16 ?_)
  intro v' w2 hown' hgrow
  have hown2 : w2.ownsRow (b + 1) 5 1 v' (l ++ [c]).length (Lib.byteCells (l ++ [c])) := by
    rw [byteCells_app, List.length_append]; exact hown'
  have P := Lib.hid (put_bd HF.out HS.out HK.out HO.out hown2 hgrow)
  have hb2 : w2.heap[b]? = some (.cells #[.pointer (some ⟨b, 0, none⟩), v] T (0, 0)) := by
    rw [hgrow.block b (by omega) (fun e => by have := G.owns_base HO.out b e.symm; omega)]; exact HK.out
  have d0 : w2.cell? ⟨b, 0, none⟩ = some (.pointer (some ⟨b, 0, none⟩)) := by rw [Lib.cell_of_heap hb2]; rfl
  have d1 : w2.cell? ⟨b, 1, none⟩ = some v := by rw [Lib.cell_of_heap hb2]; rfl
  have f1 : w2.frozen? ⟨b, 1, none⟩ = false := Lib.frozen_of_heap hb2 1
  obtain ⟨ao, cap, rfl⟩ := owns_slice hown'
  clear hown' hgrow hb2 hown2
  go_wp2
  go_ret
  exact ⟨rfl, P.out⟩
set_option maxHeartbeats 2000000 in
set_option maxRecDepth 100000 in
theorem wstr_any (T : TypeId) (hT : B.Lies T) (b : Nat) (l : List UInt8) (s : ByteArray) (w : World) (h : Bd T b l w) (hlen : l.length + s.size ≤ 10000000) :
    Calls Try.prog 54 #[.pointer (some ⟨b, 0, none⟩), .string s] w fun e w' => e = .returned (.tuple #[.int .i64 s.size, .nilIface]) ∧ Bd T b (l ++ BL s) w' ∧ FrB b w w' := by
  obtain ⟨i0, hi, hzz⟩ := Option.map_eq_some_iff.1 B.infoByte
  simp only [Prod.mk.injEq] at hzz
  obtain ⟨hz0, hz1, hz2⟩ := hzz
  have HB0 := Lib.hid h
  clear h
  go_enter Try.func54, Try.ntmps54
  go_wp2_with (fail)
  refine (checkB T hT b l _ HB0.out).mono ?_
  rintro e w1 ⟨rfl, v, hbk, hown, hF, hs⟩
  have c0 : w1.cell? ⟨b, 0, none⟩ = some (.pointer (some ⟨b, 0, none⟩)) := by rw [Lib.cell_of_heap hbk]; rfl
  have c1 : w1.cell? ⟨b, 1, none⟩ = some v := by rw [Lib.cell_of_heap hbk]; rfl
  have hl63 : l.length + s.size ≤ maxLen := by unfold maxLen; omega
  have hl16 : l.length + s.size ≤ 140737488355328 := by omega
  have hBs : b + 1 ≤ w1.heap.size := Nat.succ_le_of_lt (Array.getElem?_eq_some_iff.1 hbk).1
  have HO := Lib.hid hown
  have HK := Lib.hid hbk
  have HF := Lib.hid hF
  have HS := Lib.hid hs
  clear hown hbk hF hs
  go_wp2_with (at_builtin; refine Lib.wpList_append_own_string _ rfl _ _ 67 9 rfl (b + 1) 5 i0 Try.underlying67 Try.underlying9 hi hz0 hz1 hz2 v l.length (Lib.byteCells l) rfl HO.out s rfl hl63 hl16 hBs ?_)
  intro v' w2 hown' hgrow _
  have hown2 : w2.ownsRow (b + 1) 5 1 v' (l ++ BL s).length (Lib.byteCells (l ++ BL s)) := by
    rw [byteCells_app, List.length_append, BL_length]; exact hown'
  have P := Lib.hid (put_bd HF.out HS.out HK.out HO.out hown2 hgrow)
  have hb2 : w2.heap[b]? = some (.cells #[.pointer (some ⟨b, 0, none⟩), v] T (0, 0)) := by
    rw [hgrow.block b (by omega) (fun e => by have := G.owns_base HO.out b e.symm; omega)]; exact HK.out
  have d0 : w2.cell? ⟨b, 0, none⟩ = some (.pointer (some ⟨b, 0, none⟩)) := by rw [Lib.cell_of_heap hb2]; rfl
  have d1 : w2.cell? ⟨b, 1, none⟩ = some v := by rw [Lib.cell_of_heap hb2]; rfl
  have f1 : w2.frozen? ⟨b, 1, none⟩ = false := Lib.frozen_of_heap hb2 1
  obtain ⟨ao, cap, rfl⟩ := owns_slice hown'
  clear hown' hgrow hb2 hown2
  go_wp2
  go_ret2
  exact ⟨rfl, P.out⟩
end Go.Proofs.Ytolndeolehkjoaa
