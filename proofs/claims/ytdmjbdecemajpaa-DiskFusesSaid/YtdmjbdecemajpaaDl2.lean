/- The walk of cutAct. -/
import Derived.Test.YtdmjbdecemajpaaDl1
namespace Go.Proofs.Ytdmjbdecemajpaa.D
set_option linter.unusedVariables false
set_option linter.unusedSimpArgs false
open Go.RowKit
theorem cutS_le {s : ByteArray} (h : s.size ≤ 300) : s.extract 0 (min s.size 300) = s := by rw [Nat.min_eq_left h, ext_self]
theorem cutS_gt {s : ByteArray} (h : 300 < s.size) : s.extract 0 (min s.size 300) = s.extract 0 300 := by rw [Nat.min_eq_right (by omega)]
theorem results_c1 {P : Program} {fn : Func} {p : Tmp} {ty : TypeId} (h : fn.results = #[.cell p ty]) (tmps : Array Value) (w : World) (g : Nat) (t : TypeId) (cs : Array Value) (fr : Nat × Nat) (d : TypeDesc)
    (hp : tmps.getD p undef = .pointer (some ⟨g, 0, none⟩)) (hg : w.heap[g]? = some (.cells cs t fr))
    (hu : P.underlying ty = some d) (hd : (match d with | .struct _ | .array _ _ => true | _ => false) = true) (hi : (P.info? ty).map (·.size) = some cs.size) :
    (results fn tmps).run P w = .ok (.agg cs) w := by
  have hp' : tmps[p]?.getD undef = .pointer (some ⟨g, 0, none⟩) := by simpa using hp
  simp [results, h, hp', asAddr, run_loadVar_row w g t ty cs fr d hg hu hd hi]
theorem act_size : (Try.prog.info? 28).map (·.size) = some 5 := by kernel_rfl
theorem slice_to (A : Option Addr) (n c k : Nat) (h : k ≤ c) (W : World) : (Instr.slice 26 (.slice A n c) none (some (.int .i64 k)) none).run Try.prog W = .ok (.slice A k c) W := by
  have : (k : Int) ≤ c := by omega
  have ha : A.map (·.add (0 * 1)) = A := by cases A <;> simp [Addr.add]
  simp [Instr.slice, Instr.sliceBounds, Instr.sliceBound, asIntOf, go_sem, this]
  intro hh; omega
theorem slice_str (s : ByteArray) (k : Nat) (h : k ≤ s.size) (W : World) : (Instr.slice 9 (.string s) none (some (.int .i64 k)) none).run Try.prog W = .ok (.string (s.extract 0 k)) W := by
  have : (k : Int) ≤ s.size := by omega
  simp [Instr.slice, Instr.sliceBounds, Instr.sliceBound, asIntOf, go_sem, this]
  intro hh; omega
def av (x : Ac) : Value := .agg #[.int .i64 x.p.kind, .int .i64 x.p.no, .int .i64 x.p.n, .string x.p.s, .slice x.A x.p.picks.length x.c]
abbrev actBox (x : Ac) : Obj := .cells #[.int .i64 x.p.kind, .int .i64 x.p.no, .int .i64 x.p.n, .string x.p.s, .slice x.A x.p.picks.length x.c] 28 (0, 0)
set_option maxRecDepth 100000 in
set_option maxHeartbeats 2000000 in
theorem cutAct_any (x : Ac) (w : World) (hc : x.p.picks.length ≤ x.c) (hs : x.p.s.size ≤ 140737488351232) :
    Calls Try.prog 8 #[av x] w fun e w' => e = .returned (av (cutP x)) ∧ Below w.heap.size w w' := by
  obtain ⟨⟨kind, no, n, s, picks⟩, A, c⟩ := x
  obtain ⟨np, hnp⟩ : ∃ np, picks.length = np := ⟨_, rfl⟩
  have e1 : min (s.size : Int) 300 = ((min s.size 300 : Nat) : Int) := by omega
  have e2 : min (np : Int) 20 = ((min np 20 : Nat) : Int) := by omega
  have hc' : np ≤ c := by rw [← hnp]; exact hc
  have hs' : s.size ≤ 140737488351232 := hs
  have s1' := slice_str s (min s.size 300) (by omega)
  have s2' := slice_to A np c (min np 20) (by omega)
  rw [← e1] at s1'
  rw [← e2] at s2'
  have HR : Hid (av (cutP ⟨⟨kind, no, n, s, picks⟩, A, c⟩) = .agg #[.int .i64 kind, .int .i64 no, .int .i64 n, .string (s.extract 0 (min s.size 300)), .slice A (min np 20) c]) := Lib.hid (by
    unfold av cutP
    simp only [List.length_take, hnp]
    rw [Nat.min_eq_left (Nat.min_le_left _ _)])
  rw [HR.out]
  unfold av
  simp only [hnp]
  clear hnp hc hs
  go_enter Try.func8, Try.ntmps8
  go_wp2
  refine bodyPost_ret (results_c1 rfl _ _ (w.heap.size + 1) 28 #[.int .i64 kind, .int .i64 no, .int .i64 n, .string (s.extract 0 (min s.size 300)), .slice A (min np 20) c] (0, 0) _ rfl ?_ Try.underlying28 rfl act_size) rfl ⟨rfl, ?_⟩
  · obtain ⟨w1, q1, q2, q3, q4⟩ := box_two w #[.int .i64 kind, .int .i64 no, .int .i64 n, .string (s.extract 0 (min s.size 300)), .slice A (min np 20) c] #[.int .i64 kind, .int .i64 no, .int .i64 n, .string (s.extract 0 (min s.size 300)), .slice A (min np 20) c] 28 28
    rw [← q1]
    exact q4
  · obtain ⟨w1, q1, q2, q3, q4⟩ := box_two w #[.int .i64 kind, .int .i64 no, .int .i64 n, .string (s.extract 0 (min s.size 300)), .slice A (min np 20) c] #[.int .i64 kind, .int .i64 no, .int .i64 n, .string (s.extract 0 (min s.size 300)), .slice A (min np 20) c] 28 28
    rw [← q1]
    exact q2
end Go.Proofs.Ytdmjbdecemajpaa.D
