/- What an argument of a response reads as. -/
import Derived.Test.YtolndeolehkjoaaWp2c
import Derived.Test.YtolndeolehkjoaaOb1c
namespace Go.Proofs.Ytolndeolehkjoaa
set_option linter.unusedVariables false
set_option linter.unusedSimpArgs false
open Go.RowKit CodP
theorem cells60 : Try.prog.cellsOf 60 = 3 := by kernel_rfl
theorem cells45 : Try.prog.cellsOf 45 = 1 := by kernel_rfl
theorem cells24 : Try.prog.cellsOf 24 = 1 := by kernel_rfl
theorem bytes32 : Try.prog.bytesOf 32 = 288 := by kernel_rfl
structure RESz (r : RE) : Prop where
  err : -9223372036854775808 ≤ r.err ∧ r.err ≤ 9223372036854775807
  ver : -9223372036854775808 ≤ r.ver ∧ r.ver ≤ 9223372036854775807
  len : r.L.length ≤ 140737488351232
  obs : ∀ e ∈ r.L, ObSz e.o
section
variable {H : Type} {enc : TypeId × Value → H} {W : World} {base : Nat} {sp : Nat → Bool} {held : Bool}
theorem ob_openE : P.Opens enc Try.prog W base sp held 32 fun cs => ∃ e : OE, cs = ec e ∧ (RowsR W e.o e.f e.l e.c e.p e.i ∧ ObSz e.o) := by
  refine ob_open.mono fun cs h => ?_
  obtain ⟨o, f, l, c, p, i, h1, h2, h3⟩ := h
  exact ⟨⟨o, f, l, c, p, i⟩, h1, h2, h3⟩
theorem obs_open : P.Opens enc Try.prog W base sp held 45 fun cs => ∃ (L : List OE) (A : Option Addr) (c : Nat), cs = [.slice A L.length c] ∧ L.length ≤ 140737488351232 ∧ (∀ e ∈ L, ObSz e.o) ∧ ObsR W A L := by
  have key := P.opens_slice (W := W) (enc := enc) (base := base) (sp := sp) (held := held) Try.underlying45 ec (fun e => RowsR W e.o e.f e.l e.c e.p e.i ∧ ObSz e.o) 19 288 cells32 bytes32 ec_len ob_openE
  refine key.mono fun cs h => ?_
  obtain ⟨L, A, c, h1, h2, h3, h4⟩ := h
  exact ⟨L, A, c, h1, by omega, fun e he => (h3 e he).2, row_of h4, fun e he => (h3 e he).1⟩
def fieldP (W : World) (j : Nat) (cs : List Value) : Prop :=
  match j with
  | 0 => ∃ n : Int, cs = [.int .i64 n] ∧ (-9223372036854775808 ≤ n ∧ n ≤ 9223372036854775807)
  | 1 => ∃ n : Int, cs = [.int .i64 n] ∧ (-9223372036854775808 ≤ n ∧ n ≤ 9223372036854775807)
  | 2 => ∃ (L : List OE) (A : Option Addr) (c : Nat), cs = [.slice A L.length c] ∧ L.length ≤ 140737488351232 ∧ (∀ e ∈ L, ObSz e.o) ∧ ObsR W A L
  | _ => True
theorem three_of {cs : List Value} (h : cs.length = 3) : ∃ c0 c1 c2, cs = [c0, c1, c2] := by
  match cs, h with
  | [a, b, c], _ => exact ⟨a, b, c, rfl⟩
theorem rp_open : P.Opens enc Try.prog W base sp held 60 fun cs => ∃ r : RE, cs = (rc r).toList ∧ ObsR W r.A r.L ∧ RESz r := by
  refine (P.opens_struct Try.underlying60 (fieldP W) fun j f hj => ?_).mono fun cs ⟨hl, h⟩ => ?_
  · match j, hj with
    | 0, hj => simp at hj; subst hj; exact P.opens_i64 Try.underlying24
    | 1, hj => simp at hj; subst hj; exact P.opens_i64 Try.underlying3
    | 2, hj => simp at hj; subst hj; exact obs_open
    | k + 3, hj => simp at hj
  · rw [cells60] at hl
    obtain ⟨c0, c1, c2, rfl⟩ := three_of hl
    have q0 : fieldP W 0 (([c0, c1, c2].drop 0).take (Try.prog.cellsOf 24)) := h 0 ⟨ "Err", 24, 0, false, "", "", 0⟩ rfl
    have q1 : fieldP W 1 (([c0, c1, c2].drop 1).take (Try.prog.cellsOf 3)) := h 1 ⟨ "Version", 3, 1, false, "", "", 8⟩ rfl
    have q2 : fieldP W 2 (([c0, c1, c2].drop 2).take (Try.prog.cellsOf 45)) := h 2 ⟨ "Objects", 45, 2, false, "", "", 16⟩ rfl
    rw [cells24] at q0
    rw [cells3] at q1
    rw [cells45] at q2
    obtain ⟨a0, e0, b0⟩ := q0
    obtain ⟨a1, e1, b1⟩ := q1
    obtain ⟨L, A, c, e2, b2, z2, r2⟩ := q2
    simp at e0 e1 e2
    subst e0; subst e1; subst e2
    exact ⟨⟨a0, a1, L, A, c⟩, rfl, r2, ⟨b0, b1, b2, z2⟩⟩
end
/-- an argument of a response -/
theorem rp_arg {H : Type} {enc : TypeId × Value → H} {W : World} {base : Nat} {sp : Nat → Bool} {held : Bool} {v : Value} {d : DataW H} {ps : List MemPlace} {ts : List TypeId} {ds : List (DataW H)} {j : Nat}
    (h : DataW.Trod enc Try.prog W base sp held 60 v d ps) (hs : (DataW.weightsEach Try.prog ts ds).all (· ≤ reachBytes) = true) (ht : ts[j]? = some 60) (hd : ds[j]? = some d) : ∃ r : RE, v = .agg (rc r) ∧ ObsR W r.A r.L ∧ RESz r := by
  obtain ⟨fuel, hf⟩ := h
  obtain ⟨r, hc, hr, hz⟩ := rp_open _ _ _ hf (P.sz_of hs ht hd)
  exact ⟨r, P.agg_of hc (by simp [rc]), hr, hz⟩
end Go.Proofs.Ytolndeolehkjoaa
