/- An argument that is an act. -/
import Derived.Test.YthmknlflgajnpaaNil3
namespace Go.Proofs.Ythmknlflgajnpaa
open Go.RowKit
theorem act_arg {H : Type} {enc : TypeId × Value → H} {W : World} {base : Nat} {sp : Nat → Bool} {held : Bool} {v : Value} {d : DataW H} {ps : List MemPlace}
    (h : DataW.Trod enc Try.prog W base sp held 32 v d ps) : ∃ x : Act7, v = .agg #[.int .i64 x.kind, .int .i64 x.ref.kind, .string x.ref.name, .int .i64 x.n] := by
  obtain ⟨fuel, hf⟩ := h
  obtain ⟨_, _, _, _, _, hl, _⟩ := Deep.trod_struct3 Try.underlying32 hf
  rw [cells32] at hl
  obtain ⟨x, hx⟩ := act_opens _ _ _ (by simpa using hl) hf
  refine ⟨x, ?_⟩
  cases v with
  | agg cs =>
    simp [Value.cells, ac] at hx
    have : cs = #[.int .i64 x.kind, .int .i64 x.ref.kind, .string x.ref.name, .int .i64 x.n] := by
      apply Array.toList_inj.1; simpa using hx
    rw [this]
  | _ => simp [Value.cells, ac] at hx
end Go.Proofs.Ythmknlflgajnpaa
