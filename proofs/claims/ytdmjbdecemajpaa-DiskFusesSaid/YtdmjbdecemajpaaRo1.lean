/- What an argument of an act, and of a slice of acts, reads as. -/
import Derived.Test.YtdmjbdecemajpaaDl3
import Derived.Test.YtdmjbdecemajpaaOpn
namespace Go.Proofs.Ytdmjbdecemajpaa.D
set_option linter.unusedVariables false
set_option linter.unusedSimpArgs false
open Go.RowKit
theorem cells3 : Try.prog.cellsOf 3 = 1 := by kernel_rfl
theorem cells9 : Try.prog.cellsOf 9 = 1 := by kernel_rfl
theorem cells26 : Try.prog.cellsOf 26 = 1 := by kernel_rfl
theorem cells28 : Try.prog.cellsOf 28 = 5 := by kernel_rfl
theorem bytes3 : Try.prog.bytesOf 3 = 8 := by kernel_rfl
theorem bytes28 : Try.prog.bytesOf 28 = 64 := by kernel_rfl
/-- the cells of an act -/
def avs (x : Ac) : List Value := [.int .i64 x.p.kind, .int .i64 x.p.no, .int .i64 x.p.n, .string x.p.s, .slice x.A x.p.picks.length x.c]
structure ActOk (W : World) (x : Ac) : Prop where
  lies : Lies W x
  n : x.p.n ≤ 9223372036854775807
  s : x.p.s.size ≤ 140737488351232
section
variable {H : Type} {enc : TypeId × Value → H} {W : World} {base : Nat} {sp : Nat → Bool} {held : Bool}
theorem ints_flat : ∀ (l : List Int) (k : Nat) (hk : k < l.length), (l.flatMap fun a => [Value.int .i64 a])[k]? = some (.int .i64 l[k])
  | a :: l, 0, _ => rfl
  | a :: l, k + 1, hk => ints_flat l k (by simpa using hk)
theorem picks_open : P.Opens enc Try.prog W base sp held 26 fun cs => ∃ (l : List Int) (A : Option Addr) (c : Nat), cs = [.slice A l.length c] ∧ (l.length ≤ c ∧ ∀ k (hk : k < l.length), ∃ ad, A = some ad ∧ W.cell? (ad.add k) = some (.int .i64 l[k])) := by
  refine (P.opens_slice Try.underlying26 (fun a : Int => [Value.int .i64 a]) (fun _ => True) 1 8 cells3 bytes3 (fun _ => rfl) ((P.opens_i64 Try.underlying3).mono fun cs ⟨n, h, _⟩ => ⟨n, h, trivial⟩)).mono fun cs ⟨l, A, c, e, _, _, hr⟩ => ?_
  obtain ⟨_, A', c', hv, h1, h2, hc⟩ := hr
  cases hv
  exact ⟨l, A, c, e, h1, fun k hk => hc k _ (ints_flat l k hk)⟩
def fieldA (W : World) (j : Nat) (cs : List Value) : Prop :=
  match j with
  | 0 => ∃ n : Int, cs = [.int .i64 n] ∧ (-9223372036854775808 ≤ n ∧ n ≤ 9223372036854775807)
  | 1 => ∃ n : Int, cs = [.int .i64 n] ∧ (-9223372036854775808 ≤ n ∧ n ≤ 9223372036854775807)
  | 2 => ∃ n : Int, cs = [.int .i64 n] ∧ (-9223372036854775808 ≤ n ∧ n ≤ 9223372036854775807)
  | 3 => ∃ s : ByteArray, cs = [.string s] ∧ s.size ≤ 140737488351232
  | 4 => ∃ (l : List Int) (A : Option Addr) (c : Nat), cs = [.slice A l.length c] ∧ (l.length ≤ c ∧ ∀ k (hk : k < l.length), ∃ ad, A = some ad ∧ W.cell? (ad.add k) = some (.int .i64 l[k]))
  | _ => True
theorem parts5 {cs : List Value} (h : cs.length = 5) : cs = (cs.drop 0).take 1 ++ ((cs.drop 1).take 1 ++ ((cs.drop 2).take 1 ++ ((cs.drop 3).take 1 ++ (cs.drop 4).take 1))) := by
  match cs, h with
  | [a, b, c, d, e], _ => rfl
theorem act_open : P.Opens enc Try.prog W base sp held 28 fun cs => ∃ x : Ac, cs = avs x ∧ ActOk W x := by
  refine (P.opens_struct Try.underlying28 (fieldA W) fun j f hj => ?_).mono fun cs ⟨hl, h⟩ => ?_
  · match j, hj with
    | 0, hj => simp at hj; subst hj; exact P.opens_i64 Try.underlying3
    | 1, hj => simp at hj; subst hj; exact P.opens_i64 Try.underlying3
    | 2, hj => simp at hj; subst hj; exact P.opens_i64 Try.underlying3
    | 3, hj => simp at hj; subst hj; exact P.opens_string Try.underlying9
    | 4, hj => simp at hj; subst hj; exact picks_open
    | k + 5, hj => simp at hj
  · rw [cells28] at hl
    have q0 : fieldA W 0 ((cs.drop 0).take (Try.prog.cellsOf 3)) := h 0 ⟨ "Kind", 3, 0, false, "", "", 0⟩ rfl
    have q1 : fieldA W 1 ((cs.drop 1).take (Try.prog.cellsOf 3)) := h 1 ⟨ "No", 3, 1, false, "", "", 8⟩ rfl
    have q2 : fieldA W 2 ((cs.drop 2).take (Try.prog.cellsOf 3)) := h 2 ⟨ "N", 3, 2, false, "", "", 16⟩ rfl
    have q3 : fieldA W 3 ((cs.drop 3).take (Try.prog.cellsOf 9)) := h 3 ⟨ "S", 9, 3, false, "", "", 24⟩ rfl
    have q4 : fieldA W 4 ((cs.drop 4).take (Try.prog.cellsOf 26)) := h 4 ⟨ "Picks", 26, 4, false, "", "", 40⟩ rfl
    rw [cells3] at q0 q1 q2
    rw [cells9] at q3
    rw [cells26] at q4
    obtain ⟨a0, e0, b0⟩ := q0
    obtain ⟨a1, e1, b1⟩ := q1
    obtain ⟨a2, e2, b2⟩ := q2
    obtain ⟨a3, e3, b3⟩ := q3
    obtain ⟨l, A, c, e4, r4⟩ := q4
    have hp := parts5 hl
    rw [e0, e1, e2, e3, e4] at hp
    exact ⟨⟨⟨a0, a1, a2, a3, l⟩, A, c⟩, hp, ⟨r4, b2.2, b3⟩⟩
/-- an argument of an act -/
theorem act_arg {v : Value} {d : DataW H} {ps : List MemPlace} {ts : List TypeId} {ds : List (DataW H)} {j : Nat}
    (h : DataW.Trod enc Try.prog W base sp held 28 v d ps) (hs : (DataW.weightsEach Try.prog ts ds).all (· ≤ reachBytes) = true) (ht : ts[j]? = some 28) (hd : ds[j]? = some d) : ∃ x : Ac, v = av x ∧ ActOk W x := by
  obtain ⟨fuel, hf⟩ := h
  obtain ⟨x, hc, hz⟩ := act_open _ _ _ hf (P.sz_of hs ht hd)
  exact ⟨x, P.agg_of hc (by simp), hz⟩
/-- a row of acts -/
def Acts (W : World) (A : Option Addr) (c : Nat) (l : List Ac) : Prop := (∀ x ∈ l, ActOk W x) ∧ l.length ≤ 140737488351232 ∧ G.HasRow W 5 (.slice A l.length c) l.length (l.flatMap avs)
theorem acts_open : P.Opens enc Try.prog W base sp held 22 fun cs => ∃ (l : List Ac) (A : Option Addr) (c : Nat), cs = [.slice A l.length c] ∧ Acts W A c l :=
  (P.opens_slice Try.underlying22 avs (ActOk W) 5 64 cells28 bytes28 (fun _ => rfl) act_open).mono fun cs ⟨l, A, c, e, h1, h2, hr⟩ => ⟨l, A, c, e, h2, by omega, hr⟩
theorem slice_val {P : Program} {r : Reach} {b0 : Nat} {t e : TypeId} {v : Value} {A : Option Addr} {n c : Nat} (ht : P.underlying t = some (.slice e)) (hv : Value.okWide P W r b0 t v) (hc : v.cells.toList = [.slice A n c]) : v = .slice A n c := by
  obtain ⟨B, k, m, rfl⟩ := Go.WideShapes.okWide_slice ht hv
  simp [Value.cells] at hc
  obtain ⟨rfl, rfl, rfl⟩ := hc
  rfl
theorem acts_arg {v : Value} {d : DataW H} {ps : List MemPlace} {ts : List TypeId} {ds : List (DataW H)} {j : Nat} {r : Reach} {b0 : Nat} (hv : Value.okWide Try.prog W r b0 22 v)
    (h : DataW.Trod enc Try.prog W base sp held 22 v d ps) (hs : (DataW.weightsEach Try.prog ts ds).all (· ≤ reachBytes) = true) (ht : ts[j]? = some 22) (hd : ds[j]? = some d) : ∃ (l : List Ac) (A : Option Addr) (c : Nat), v = .slice A l.length c ∧ Acts W A c l := by
  obtain ⟨fuel, hf⟩ := h
  obtain ⟨l, A, c, hc, hz⟩ := acts_open _ _ _ hf (P.sz_of hs ht hd)
  exact ⟨l, A, c, slice_val Try.underlying22 hv hc, hz⟩
end
end Go.Proofs.Ytdmjbdecemajpaa.D
