/- What an argument of a request reads as. -/
import Derived.Test.YtolndeolehkjoaaWq1c
import Derived.Test.YtolndeolehkjoaaOb1c
namespace Go.Proofs.Ytolndeolehkjoaa
set_option linter.unusedVariables false
set_option linter.unusedSimpArgs false
open Go.RowKit CodP
theorem cells51 : Try.prog.cellsOf 51 = 23 := by kernel_rfl
structure RqSz (q : Rq) : Prop where
  ob : ObSz q.ob
  op : -9223372036854775808 ≤ q.op ∧ q.op ≤ 9223372036854775807
  kind : -9223372036854775808 ≤ q.kind ∧ q.kind ≤ 9223372036854775807
  name : q.name.size ≤ 140737488351232
  version : -9223372036854775808 ≤ q.version ∧ q.version ≤ 9223372036854775807
section
variable {H : Type} {enc : TypeId × Value → H} {W : World} {base : Nat} {sp : Nat → Bool} {held : Bool}
def fieldQ (W : World) (j : Nat) (cs : List Value) : Prop :=
  match j with
  | 0 => ∃ n : Int, cs = [.int .i64 n] ∧ (-9223372036854775808 ≤ n ∧ n ≤ 9223372036854775807)
  | 1 => ∃ (o : Ob) (f l c p i : Sl), cs = (oc o f l c p i).toList ∧ RowsR W o f l c p i ∧ ObSz o
  | 2 => ∃ n : Int, cs = [.int .i64 n] ∧ (-9223372036854775808 ≤ n ∧ n ≤ 9223372036854775807)
  | 3 => ∃ s : ByteArray, cs = [.string s] ∧ s.size ≤ 140737488351232
  | 4 => ∃ n : Int, cs = [.int .i64 n] ∧ (-9223372036854775808 ≤ n ∧ n ≤ 9223372036854775807)
  | _ => True
theorem parts23 {cs : List Value} (h : cs.length = 23) : cs = (cs.drop 0).take 1 ++ ((cs.drop 1).take 19 ++ ((cs.drop 20).take 1 ++ ((cs.drop 21).take 1 ++ (cs.drop 22).take 1))) := by
  have e : cs.drop 23 = [] := List.drop_of_length_le (by omega)
  have s1 := List.take_append_drop 1 (cs.drop 0)
  have s2 := List.take_append_drop 19 (cs.drop 1)
  have s3 := List.take_append_drop 1 (cs.drop 20)
  have s4 := List.take_append_drop 1 (cs.drop 21)
  have s5 := List.take_append_drop 1 (cs.drop 22)
  rw [List.drop_drop] at s1 s2 s3 s4 s5
  simp only [Nat.reduceAdd] at s1 s2 s3 s4 s5
  rw [e, List.append_nil] at s5
  rw [s5, s4, s3, s2, s1, List.drop_zero]
set_option maxHeartbeats 1000000 in
theorem rq_open : P.Opens enc Try.prog W base sp held 51 fun cs => ∃ (q : Rq) (f l c p i : Sl), cs = (rq q f l c p i).toList ∧ RowsR W q.ob f l c p i ∧ RqSz q := by
  refine (P.opens_struct Try.underlying51 (fieldQ W) fun j f hj => ?_).mono fun cs ⟨hl, h⟩ => ?_
  · match j, hj with
    | 0, hj => simp at hj; subst hj; exact P.opens_i64 Try.underlying3
    | 1, hj => simp at hj; subst hj; exact ob_open
    | 2, hj => simp at hj; subst hj; exact P.opens_i64 Try.underlying3
    | 3, hj => simp at hj; subst hj; exact P.opens_string Try.underlying9
    | 4, hj => simp at hj; subst hj; exact P.opens_i64 Try.underlying3
    | k + 5, hj => simp at hj
  · rw [cells51] at hl
    have q0 : fieldQ W 0 ((cs.drop 0).take (Try.prog.cellsOf 3)) := h 0 ⟨ "Op", 3, 0, false, "", "", 0⟩ rfl
    have q1 : fieldQ W 1 ((cs.drop 1).take (Try.prog.cellsOf 32)) := h 1 ⟨ "Object", 32, 1, false, "", "", 8⟩ rfl
    have q2 : fieldQ W 2 ((cs.drop 20).take (Try.prog.cellsOf 3)) := h 2 ⟨ "Kind", 3, 20, false, "", "", 296⟩ rfl
    have q3 : fieldQ W 3 ((cs.drop 21).take (Try.prog.cellsOf 9)) := h 3 ⟨ "Name", 9, 21, false, "", "", 304⟩ rfl
    have q4 : fieldQ W 4 ((cs.drop 22).take (Try.prog.cellsOf 3)) := h 4 ⟨ "Version", 3, 22, false, "", "", 320⟩ rfl
    rw [cells3] at q0 q2 q4
    rw [cells32] at q1
    rw [cells9] at q3
    obtain ⟨a0, e0, b0⟩ := q0
    obtain ⟨o, f, l, c, p, i, e1, r1, z1⟩ := q1
    obtain ⟨a2, e2, b2⟩ := q2
    obtain ⟨a3, e3, b3⟩ := q3
    obtain ⟨a4, e4, b4⟩ := q4
    have hp := parts23 hl
    rw [e0, e1, e2, e3, e4] at hp
    exact ⟨⟨a0, o, a2, a3, a4⟩, f, l, c, p, i, hp, r1, ⟨z1, b0, b2, b3, b4⟩⟩
end
/-- an argument of a request -/
theorem rq_arg {H : Type} {enc : TypeId × Value → H} {W : World} {base : Nat} {sp : Nat → Bool} {held : Bool} {v : Value} {d : DataW H} {ps : List MemPlace} {ts : List TypeId} {ds : List (DataW H)} {j : Nat}
    (h : DataW.Trod enc Try.prog W base sp held 51 v d ps) (hs : (DataW.weightsEach Try.prog ts ds).all (· ≤ reachBytes) = true) (ht : ts[j]? = some 51) (hd : ds[j]? = some d) : ∃ (q : Rq) (f l c p i : Sl), v = .agg (rq q f l c p i) ∧ RowsR W q.ob f l c p i ∧ RqSz q := by
  obtain ⟨fuel, hf⟩ := h
  obtain ⟨q, f, l, c, p, i, hc, hr, hz⟩ := rq_open _ _ _ hf (P.sz_of hs ht hd)
  exact ⟨q, f, l, c, p, i, P.agg_of hc (by simp [rq]), hr, hz⟩
end Go.Proofs.Ytolndeolehkjoaa
