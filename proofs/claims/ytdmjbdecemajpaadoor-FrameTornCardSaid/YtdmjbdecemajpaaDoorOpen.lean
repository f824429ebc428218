/- What an argument of a slice of texts reads as: a row of texts. -/
import Derived.Test.YtdmjbdecemajpaaDoorGen
import Derived.SliceStrings
import Derived.ProofKit
namespace Go.Proofs.YtdmjbdecemajpaaDoor.O
open Go.RowKit
/-- a slice of texts that came in -/
theorem strings {H : Type} {enc : TypeId × Value → H} {P : Program} {W : World} {base b0 : Nat} {sp : Nat → Bool} {held : Bool} {r : Reach} {t e : TypeId} {v : Value} {d : DataW H} {ps : List MemPlace}
    (ht : P.underlying t = some (.slice e)) (he : P.underlying e = some .string) (hc : P.cellsOf e = 1) (hv : Value.okWide P W r b0 t v) (h : DataW.Trod enc P W base sp held t v d ps) :
    ∃ ss : List ByteArray, G.HasRow W 1 v ss.length (ss.map Value.string) := by
  obtain ⟨A, len, cap, rfl⟩ := Go.WideShapes.okWide_slice ht hv
  obtain ⟨fuel, hf⟩ := h
  rcases Go.ChangeShapes.open_strings ht he hc hf with ⟨hcs, _⟩ | ⟨x, l, c, ss, hcs, _, hl, hm, hz, _, hcell, _⟩
  · simp [Value.cells] at hcs
    obtain ⟨rfl, rfl, rfl⟩ := hcs
    exact ⟨[], G.HasRow.nil W 1⟩
  · simp [Value.cells] at hcs
    obtain ⟨rfl, rfl, rfl⟩ := hcs
    have hls : len ≤ ss.length := by rw [hz]; split <;> omega
    have hlt : (ss.take len).length = len := by simp; omega
    refine ⟨ss.take len, ?_⟩
    rw [hlt]
    refine ⟨by simp; omega, some x, cap, rfl, hl, hm, fun j u hj => ⟨x, rfl, ?_⟩⟩
    have hjl : j < len := by
      rcases Nat.lt_or_ge j len with h | h
      · exact h
      · rw [List.getElem?_eq_none (by simp; omega)] at hj; simp at hj
    rw [hcell j (by omega)]
    rw [List.getElem?_map, List.getElem?_take, if_pos hjl, List.getElem?_eq_getElem (by omega)] at hj
    simp only [Option.map_some, Option.some.injEq] at hj
    rw [← hj, List.getD_eq_getElem?_getD, List.getElem?_eq_getElem (by omega)]
    rfl
end Go.Proofs.YtdmjbdecemajpaaDoor.O
