/- The calls that WalLasts plays: what an argument reads as; cut; begins. -/
import Derived.Test.YtdmjbdecemajpaaDoorWlAm
import Derived.Test.YtdmjbdecemajpaaDoorOpn
namespace Go.Proofs.YtdmjbdecemajpaaDoor.D
set_option linter.unusedVariables false
set_option linter.unusedSimpArgs false
open Go.RowKit
/-- a call: its kind, a number, a text, picks and where they lie -/
structure Aw where
  kind : Int
  n : Int
  s : ByteArray
  picks : List Int
  A : Option Addr
  c : Nat
def awc (x : Aw) : List Value := [.int .i64 x.kind, .int .i64 x.n, .string x.s, .slice x.A x.picks.length x.c]
def awv (x : Aw) : Value := .agg #[.int .i64 x.kind, .int .i64 x.n, .string x.s, .slice x.A x.picks.length x.c]
structure AwOk (W : World) (x : Aw) : Prop where
  cap : x.picks.length ≤ x.c
  at_ : ∀ k (hk : k < x.picks.length), ∃ ad, x.A = some ad ∧ W.cell? (ad.add k) = some (.int .i64 x.picks[k])
  n : x.n ≤ 9223372036854775807
  s : x.s.size ≤ 140737488351232
def cutW (x : Aw) : Aw := ⟨x.kind, x.n, x.s.extract 0 (min x.s.size 300), x.picks.take (min x.picks.length 10), x.A, x.c⟩
theorem cutW_ok {W : World} {x : Aw} (h : AwOk W x) : AwOk W (cutW x) ∧ (cutW x).s.size ≤ 300 ∧ (cutW x).picks.length ≤ 10 := by
  refine ⟨⟨?_, fun k hk => ?_, h.n, ?_⟩, ?_, ?_⟩
  · show (x.picks.take (min x.picks.length 10)).length ≤ x.c
    have := h.cap
    rw [List.length_take]; omega
  · have hk' : k < (x.picks.take (min x.picks.length 10)).length := hk
    rw [List.length_take] at hk'
    obtain ⟨ad, h1, h2⟩ := h.at_ k (by omega)
    have hk2 : k < (x.picks.take (min x.picks.length 10)).length := hk
    have e : (x.picks.take (min x.picks.length 10))[k]'hk2 = x.picks[k]'(by omega) := List.getElem_take
    exact ⟨ad, h1, h2.trans (congrArg (fun v => some (Value.int .i64 v)) e.symm)⟩
  · show (x.s.extract 0 (min x.s.size 300)).size ≤ _
    have := h.s
    simp; omega
  · show (x.s.extract 0 (min x.s.size 300)).size ≤ _
    simp; omega
  · show (x.picks.take (min x.picks.length 10)).length ≤ 10
    rw [List.length_take]; omega
theorem results_c1 {P : Program} {fn : Func} {p : Tmp} {ty : TypeId} (h : fn.results = #[.cell p ty]) (tmps : Array Value) (w : World) (g : Nat) (t : TypeId) (cs : Array Value) (fr : Nat × Nat) (d : TypeDesc)
    (hp : tmps.getD p undef = .pointer (some ⟨g, 0, none⟩)) (hg : w.heap[g]? = some (.cells cs t fr))
    (hu : P.underlying ty = some d) (hd : (match d with | .struct _ | .array _ _ => true | _ => false) = true) (hi : (P.info? ty).map (·.size) = some cs.size) :
    (results fn tmps).run P w = .ok (.agg cs) w := by
  have hp' : tmps[p]?.getD undef = .pointer (some ⟨g, 0, none⟩) := by simpa using hp
  simp [results, h, hp', asAddr, run_loadVar_row w g t ty cs fr d hg hu hd hi]
theorem size63 : (Tryd.prog.info? 63).map (·.size) = some 4 := by kernel_rfl
theorem slice61 (A : Option Addr) (n c k : Nat) (h : k ≤ c) (W : World) : (Instr.slice 61 (.slice A n c) none (some (.int .i64 k)) none).run Tryd.prog W = .ok (.slice A k c) W := by
  have : (k : Int) ≤ c := by omega
  have ha : A.map (·.add (0 * 1)) = A := by cases A <;> simp [Addr.add]
  simp [Instr.slice, Instr.sliceBounds, Instr.sliceBound, asIntOf, go_sem, this]
  intro hh; omega
theorem slice41 (A : Option Addr) (n c k : Nat) (h : k ≤ c) (W : World) : (Instr.slice 41 (.slice A n c) none (some (.int .i64 k)) none).run Tryd.prog W = .ok (.slice A k c) W := by
  have : (k : Int) ≤ c := by omega
  have ha : A.map (·.add (0 * 1)) = A := by cases A <;> simp [Addr.add]
  simp [Instr.slice, Instr.sliceBounds, Instr.sliceBound, asIntOf, go_sem, this]
  intro hh; omega
theorem slice_str (s : ByteArray) (k : Nat) (h : k ≤ s.size) (W : World) : (Instr.slice 9 (.string s) none (some (.int .i64 k)) none).run Tryd.prog W = .ok (.string (s.extract 0 k)) W := by
  have : (k : Int) ≤ s.size := by omega
  simp [Instr.slice, Instr.sliceBounds, Instr.sliceBound, asIntOf, go_sem, this]
  intro hh; omega
set_option maxRecDepth 100000 in
set_option maxHeartbeats 2000000 in
theorem cutW_any (x : Aw) (w : World) (hc : x.picks.length ≤ x.c) (hs : x.s.size ≤ 140737488351232) :
    Calls Tryd.prog 41 #[awv x] w fun e w' => e = .returned (awv (cutW x)) ∧ Below w.heap.size w w' := by
  obtain ⟨kind, n, s, picks, A, c⟩ := x
  obtain ⟨np, hnp⟩ : ∃ np, picks.length = np := ⟨_, rfl⟩
  have e1 : min (s.size : Int) 300 = ((min s.size 300 : Nat) : Int) := by omega
  have e2 : min (np : Int) 10 = ((min np 10 : Nat) : Int) := by omega
  have hc' : np ≤ c := by rw [← hnp]; exact hc
  have hs' : s.size ≤ 140737488351232 := hs
  have s1' := slice_str s (min s.size 300) (by omega)
  have s2' := slice61 A np c (min np 10) (by omega)
  rw [← e1] at s1'
  rw [← e2] at s2'
  have HR : Hid (awv (cutW ⟨kind, n, s, picks, A, c⟩) = .agg #[.int .i64 kind, .int .i64 n, .string (s.extract 0 (min s.size 300)), .slice A (min np 10) c]) := Lib.hid (by
    unfold awv cutW
    simp only [List.length_take, hnp]
    rw [Nat.min_eq_left (Nat.min_le_left _ _)])
  rw [HR.out]
  unfold awv
  simp only [hnp]
  clear hnp hc hs
  go_enter Tryd.func41, Tryd.ntmps41
  go_wp2
  refine bodyPost_ret (results_c1 rfl _ _ (w.heap.size + 1) 63 #[.int .i64 kind, .int .i64 n, .string (s.extract 0 (min s.size 300)), .slice A (min np 10) c] (0, 0) _ rfl ?_ Tryd.underlying63 rfl size63) rfl ⟨rfl, ?_⟩
  · obtain ⟨w1, q1, q2, q3, q4⟩ := box_two w #[.int .i64 kind, .int .i64 n, .string (s.extract 0 (min s.size 300)), .slice A (min np 10) c] #[.int .i64 kind, .int .i64 n, .string (s.extract 0 (min s.size 300)), .slice A (min np 10) c] 63 63
    rw [← q1]
    exact q4
  · obtain ⟨w1, q1, q2, q3, q4⟩ := box_two w #[.int .i64 kind, .int .i64 n, .string (s.extract 0 (min s.size 300)), .slice A (min np 10) c] #[.int .i64 kind, .int .i64 n, .string (s.extract 0 (min s.size 300)), .slice A (min np 10) c] 63 63
    rw [← q1]
    exact q2
/-- a beginning of a row -/
theorem has_take {w : World} {A : Option Addr} {n c k : Nat} {l : List ByteArray} (h : G.HasRow w 1 (.slice A n c) n (strs l)) (hn : n = l.length) (hk : k ≤ n) : G.HasRow w 1 (.slice A k c) (l.take k).length (strs (l.take k)) := by
  obtain ⟨h1, A', c', hv, h2, h3, hc⟩ := h
  cases hv
  have hl : (l.take k).length = k := by rw [List.length_take]; omega
  rw [hl]
  refine ⟨by rw [strs_length, hl]; omega, A, c, rfl, by omega, h3, fun j u hj => hc j u ?_⟩
  have hjl : j < k := by
    have := (List.getElem?_eq_some_iff.1 hj).1
    rw [strs_length, hl] at this; exact this
  rw [← hj]
  unfold strs
  rw [List.getElem?_map, List.getElem?_map, List.getElem?_take, if_pos hjl]
set_option maxHeartbeats 1000000 in
theorem begins_yes (va : Value) (r rest : List ByteArray) (A : Option Addr) (c : Nat) (w : World) (ha : ∃ B b2, w.ownsRow B b2 1 va r.length (strs r)) (hb : G.HasRow w 1 (.slice A (r ++ rest).length c) (r ++ rest).length (strs (r ++ rest))) :
    Calls Tryd.prog 45 #[va, .slice A (r ++ rest).length c] w fun e w' => e = .returned (.bool true) ∧ Below w.heap.size w w' := by
  obtain ⟨B, b2, hown⟩ := ha
  obtain ⟨VA, vc, rfl⟩ := owns_shape hown
  have hra := G.HasRow.of_owns hown
  obtain ⟨m, hm⟩ : ∃ m, (r ++ rest).length = m := ⟨_, rfl⟩
  obtain ⟨n, hn⟩ : ∃ n, r.length = n := ⟨_, rfl⟩
  have hmn : n ≤ m := by rw [← hm, ← hn, List.length_append]; omega
  have hcap : m ≤ c := by
    obtain ⟨_, _, _, hv, h2, _⟩ := hb
    cases hv
    rw [← hm]; exact h2
  have hbig : m ≤ maxLen := by
    obtain ⟨_, _, _, hv, h2, h3, _⟩ := hb
    cases hv
    rw [← hm]; omega
  rw [hm] at hb ⊢
  have hrb := has_take hb hm.symm hmn
  rw [show (r ++ rest).take n = r by rw [← hn]; simp] at hrb
  have hS := same_any (.slice VA n vc) (.slice A n c) r r w (by rw [← hn] at *; exact hra) hrb
  rw [decide_eq_true rfl] at hS
  have sl := slice41 A m c n (by omega)
  have hmi : (n : Int) ≤ m := by omega
  rw [hn]
  have HS := Lib.hid hS
  unfold maxLen at hbig
  clear hS hrb hra hown hb hn hm
  go_enter Tryd.func45, Tryd.ntmps45
  go_wp2_with (go_at_call 27; refine HS.out.mono ?_; rintro e w1 ⟨rfl, hb1⟩)
  go_ret
  exact ⟨rfl, hb1⟩
/-! ### what an argument reads as -/
theorem cells3 : Tryd.prog.cellsOf 3 = 1 := by kernel_rfl
theorem cells9 : Tryd.prog.cellsOf 9 = 1 := by kernel_rfl
theorem cells61 : Tryd.prog.cellsOf 61 = 1 := by kernel_rfl
theorem cells63 : Tryd.prog.cellsOf 63 = 4 := by kernel_rfl
theorem bytes3 : Tryd.prog.bytesOf 3 = 8 := by kernel_rfl
theorem bytes63 : Tryd.prog.bytesOf 63 = 56 := by kernel_rfl
section
variable {H : Type} {enc : TypeId × Value → H} {W : World} {base : Nat} {sp : Nat → Bool} {held : Bool}
theorem ints_flat : ∀ (l : List Int) (k : Nat) (hk : k < l.length), (l.flatMap fun a => [Value.int .i64 a])[k]? = some (.int .i64 l[k])
  | a :: l, 0, _ => rfl
  | a :: l, k + 1, hk => ints_flat l k (by simpa using hk)
theorem picks_open : P.Opens enc Tryd.prog W base sp held 61 fun cs => ∃ (l : List Int) (A : Option Addr) (c : Nat), cs = [.slice A l.length c] ∧ (l.length ≤ c ∧ ∀ k (hk : k < l.length), ∃ ad, A = some ad ∧ W.cell? (ad.add k) = some (.int .i64 l[k])) := by
  refine (P.opens_slice Tryd.underlying61 (fun a : Int => [Value.int .i64 a]) (fun _ => True) 1 8 cells3 bytes3 (fun _ => rfl) ((P.opens_i64 Tryd.underlying3).mono fun cs ⟨n, h, _⟩ => ⟨n, h, trivial⟩)).mono fun cs ⟨l, A, c, e, _, _, hr⟩ => ?_
  obtain ⟨_, A', c', hv, h1, h2, hc⟩ := hr
  cases hv
  exact ⟨l, A, c, e, h1, fun k hk => hc k _ (ints_flat l k hk)⟩
def fieldW (W : World) (j : Nat) (cs : List Value) : Prop :=
  match j with
  | 0 => ∃ n : Int, cs = [.int .i64 n] ∧ (-9223372036854775808 ≤ n ∧ n ≤ 9223372036854775807)
  | 1 => ∃ n : Int, cs = [.int .i64 n] ∧ (-9223372036854775808 ≤ n ∧ n ≤ 9223372036854775807)
  | 2 => ∃ s : ByteArray, cs = [.string s] ∧ s.size ≤ 140737488351232
  | 3 => ∃ (l : List Int) (A : Option Addr) (c : Nat), cs = [.slice A l.length c] ∧ (l.length ≤ c ∧ ∀ k (hk : k < l.length), ∃ ad, A = some ad ∧ W.cell? (ad.add k) = some (.int .i64 l[k]))
  | _ => True
theorem parts4 {cs : List Value} (h : cs.length = 4) : cs = (cs.drop 0).take 1 ++ ((cs.drop 1).take 1 ++ ((cs.drop 2).take 1 ++ (cs.drop 3).take 1)) := by
  match cs, h with
  | [a, b, c, d], _ => rfl
theorem aw_open : P.Opens enc Tryd.prog W base sp held 63 fun cs => ∃ x : Aw, cs = awc x ∧ AwOk W x := by
  refine (P.opens_struct Tryd.underlying63 (fieldW W) fun j f hj => ?_).mono fun cs ⟨hl, h⟩ => ?_
  · match j, hj with
    | 0, hj => simp at hj; subst hj; exact P.opens_i64 Tryd.underlying3
    | 1, hj => simp at hj; subst hj; exact P.opens_i64 Tryd.underlying3
    | 2, hj => simp at hj; subst hj; exact P.opens_string Tryd.underlying9
    | 3, hj => simp at hj; subst hj; exact picks_open
    | k + 4, hj => simp at hj
  · rw [cells63] at hl
    have q0 : fieldW W 0 ((cs.drop 0).take (Tryd.prog.cellsOf 3)) := h 0 ⟨ "Kind", 3, 0, false, "", "", 0⟩ rfl
    have q1 : fieldW W 1 ((cs.drop 1).take (Tryd.prog.cellsOf 3)) := h 1 ⟨ "N", 3, 1, false, "", "", 8⟩ rfl
    have q2 : fieldW W 2 ((cs.drop 2).take (Tryd.prog.cellsOf 9)) := h 2 ⟨ "S", 9, 2, false, "", "", 16⟩ rfl
    have q3 : fieldW W 3 ((cs.drop 3).take (Tryd.prog.cellsOf 61)) := h 3 ⟨ "Picks", 61, 3, false, "", "", 32⟩ rfl
    rw [cells3] at q0 q1
    rw [cells9] at q2
    rw [cells61] at q3
    obtain ⟨a0, e0, b0⟩ := q0
    obtain ⟨a1, e1, b1⟩ := q1
    obtain ⟨a2, e2, b2⟩ := q2
    obtain ⟨l, A, c, e3, r3⟩ := q3
    have hp := parts4 hl
    rw [e0, e1, e2, e3] at hp
    exact ⟨⟨a0, a1, a2, l, A, c⟩, hp, ⟨r3.1, r3.2, b1.2, b2⟩⟩
/-- a row of calls -/
def Aws (W : World) (A : Option Addr) (c : Nat) (l : List Aw) : Prop := (∀ x ∈ l, AwOk W x) ∧ l.length ≤ 140737488351232 ∧ G.HasRow W 4 (.slice A l.length c) l.length (l.flatMap awc)
set_option maxRecDepth 100000 in
theorem aws_open : P.Opens enc Tryd.prog W base sp held 60 fun cs => ∃ (l : List Aw) (A : Option Addr) (c : Nat), cs = [.slice A l.length c] ∧ Aws W A c l :=
  (P.opens_slice Tryd.underlying60 awc (AwOk W) 4 56 cells63 bytes63 (fun _ => rfl) aw_open).mono fun cs ⟨l, A, c, e, h1, h2, hr⟩ => ⟨l, A, c, e, h2, by omega, hr⟩
theorem slice_val {P : Program} {r : Reach} {b0 : Nat} {t e : TypeId} {v : Value} {A : Option Addr} {n c : Nat} (ht : P.underlying t = some (.slice e)) (hv : Value.okWide P W r b0 t v) (hc : v.cells.toList = [.slice A n c]) : v = .slice A n c := by
  obtain ⟨B, k, m, rfl⟩ := Go.WideShapes.okWide_slice ht hv
  simp [Value.cells] at hc
  obtain ⟨rfl, rfl, rfl⟩ := hc
  rfl
set_option maxRecDepth 100000 in
theorem aws_arg {v : Value} {d : DataW H} {ps : List MemPlace} {ts : List TypeId} {ds : List (DataW H)} {j : Nat} {r : Reach} {b0 : Nat} (hv : Value.okWide Tryd.prog W r b0 60 v)
    (h : DataW.Trod enc Tryd.prog W base sp held 60 v d ps) (hs : (DataW.weightsEach Tryd.prog ts ds).all (· ≤ reachBytes) = true) (ht : ts[j]? = some 60) (hd : ds[j]? = some d) : ∃ (l : List Aw) (A : Option Addr) (c : Nat), v = .slice A l.length c ∧ Aws W A c l := by
  obtain ⟨fuel, hf⟩ := h
  obtain ⟨l, A, c, hc, hz⟩ := aws_open _ _ _ hf (P.sz_of hs ht hd)
  exact ⟨l, A, c, slice_val Tryd.underlying60 hv hc, hz⟩
end
end Go.Proofs.YtdmjbdecemajpaaDoor.D
namespace Go.Proofs.YtdmjbdecemajpaaDoor.D
set_option linter.unusedVariables false
set_option linter.unusedSimpArgs false
open Go.RowKit
/-- no file is longer -/
def Sm (s : DS) (b : Nat) : Prop := ∀ a f, M.get s.files a = some f → f.data.size ≤ b
theorem Sm.mono {s : DS} {b c : Nat} (h : Sm s b) (hc : b ≤ c) : Sm s c := fun a f hf => Nat.le_trans (h a f hf) hc
theorem Sm.fl {s : DS} {b : Nat} (h : Sm s b) (no : Int) : (s.fl no).data.size ≤ b := by
  unfold DS.fl
  cases hg : M.get s.files no with
  | none => exact Nat.zero_le _
  | some f => exact h no f hg
theorem Sm.files {s s' : DS} {b : Nat} (h : Sm s b) (he : s'.files = s.files) : Sm s' b := fun a f hf => h a f (by rw [← he]; exact hf)
theorem Sm.put {s s' : DS} {b : Nat} {no : Int} {f : Fl} (h : Sm s b) (he : s'.files = M.put s.files no f) (hf : f.data.size ≤ b) : Sm s' b := fun a g hg => by
  rw [he, M.get_put] at hg
  by_cases e : a = no
  · rw [if_pos e] at hg; cases hg; exact hf
  · rw [if_neg e] at hg; exact h a g hg
theorem Sm.app {s : DS} {b : Nat} (h : Sm s b) (no : Int) (F : ByteArray) (c : Nat) (hc : F.size ≤ c) : Sm (appS s no F) (b + c) := by
  unfold appS
  split
  · exact h.mono (by omega)
  split
  · exact h.mono (by omega)
  split
  · exact h.mono (by omega)
  · refine (h.mono (by omega)).put (step_put' s no _).2.2.2 ?_
    show ((s.fl no).data ++ F).size ≤ _
    have := h.fl no
    rw [ByteArray.size_append]; omega
theorem Sm.syn {s : DS} {b : Nat} (h : Sm s b) (no : Int) : Sm (synS s no) b := by
  unfold synS
  split
  · exact h
  split
  · exact h.files (stepS_files s)
  · exact (h.files (stepS_files s)).put (s' := (stepS s).put no _) rfl (h.fl no)
theorem Sm.tri {s : DS} {b : Nat} (h : Sm s b) (no z : Int) : Sm (triS s no z) b := by
  unfold triS
  split
  · exact h
  split
  · exact h
  split
  · exact h.files (stepS_files s)
  · refine (h.files (stepS_files s)).put (s' := (stepS s).put no _) rfl ?_
    show ((s.fl no).data.extract 0 z.toNat).size ≤ b
    have := h.fl no
    simp; omega
theorem Sm.rem {s : DS} {b : Nat} (h : Sm s b) (hN : M.Nodup s.files) (no : Int) : Sm (remS s no) b := by
  unfold remS
  split
  · exact h
  split
  · exact h.files (stepS_files s)
  · intro a f hf
    replace hf : M.get (M.del (stepS s).files no) a = some f := hf
    rw [stepS_files, M.get_del hN] at hf
    split at hf
    · cases hf
    · exact h a f hf
theorem Sm.remOut {s : DS} {b k : Nat} (h : Sm s b) (hO : Okk s k) (g n : Int) : ∀ l, Sm (remOut g n l s).2 b := fun l => by
  induction l generalizing s k with
  | nil => exact h
  | cons no l ih =>
    rw [D.remOut]
    split
    · exact ih h hO
    split
    · exact h.rem hO.nd no
    · exact ih (h.rem hO.nd no) (hO.rem no)
theorem Sm.remDn {s : DS} {b k : Nat} (h : Sm s b) (hO : Okk s k) (g : Int) (c : Nat) : Sm (remDn g c s).2 b := by
  induction c generalizing s k with
  | zero => exact h
  | succ c ih =>
    rw [D.remDn]
    split
    · exact h.rem hO.nd _
    · exact ih (h.rem hO.nd _) (hO.rem _)
theorem Sm.openP {s : DS} {b k : Nat} (h : Sm s b) (hO : Okk s k) : Sm (openP s).s b := by
  unfold D.openP
  split
  · exact h
  · rename_i p _
    have hr := h.remOut hO p.1 (segs s p).last s.keys
    have ht : ∀ (s' : DS) (no : Int) (z : Int), Sm s' b → Sm (tidS s' no z) b := fun s' no z hs => by
      unfold tidS
      split
      · split
        · exact hs.tri _ _
        · exact (hs.tri _ _).syn _
      · exact hs.syn _
    unfold openT
    split
    · exact hr
    split
    · exact hr
    split
    · exact ht _ _ _ hr
    · exact ht _ _ _ hr
theorem Sm.sta {s : DS} {b k : Nat} (h : Sm s b) (hO : Okk s k) (picks : List Int) : Sm (staS s picks) b := by
  obtain ⟨i1, i2, _⟩ := sta_spec picks s.keys s.files 0 (keys_nd hO.nd) (fun a ha => (keys_mem a).1 ha) hO.fl hO.nd
  unfold staS
  split
  · intro a f hf
    replace hf : M.get (staF picks s.keys s.files 0) a = some f := hf
    by_cases ha : a ∈ s.keys
    · obtain ⟨f1, f', h1, h2, h3⟩ := i2 a ha
      rw [h2] at hf
      cases hf
      exact Nat.le_trans h3.2.2.1 (h a _ h1)
    · rw [i1 a ha] at hf; exact h a f hf
  · exact h
theorem Sm.lay {s : DS} {b : Nat} (h : Sm s b) (g : Int) (t : ByteArray) (ht : t.size ≤ 300) : Sm (layS' s g t) (b + 308) := by
  have := frm_size t
  unfold layS'
  split
  · exact h.app _ _ _ (by omega)
  · exact (h.app _ _ _ (by omega)).syn _
theorem Sm.wap {s : DS} {b : Nat} (h : Sm s b) (L : LS) (t : ByteArray) (ht : t.size ≤ 300) : Sm (wapS s L t) (b + 308) := by
  have := frm_size t
  have hr : Sm (roomP s L).s b := by
    unfold roomP
    split
    · exact h
    split
    · exact h
    split
    · split
      · exact h.syn _
      · exact h.syn _
    · exact h
  unfold wapS
  split
  · exact h.mono (by omega)
  split
  · exact h.mono (by omega)
  split
  · exact hr.mono (by omega)
  · exact hr.app _ _ _ (by omega)
theorem Sm.wsy {s : DS} {b : Nat} (h : Sm s b) (L : LS) : Sm (wsyS s L) b := by
  unfold wsyS
  split
  · exact h
  split
  · exact h.syn _
  · exact h
theorem Okk.remDn {s : DS} {k : Nat} (hO : Okk s k) (g : Int) (c : Nat) : Okk (remDn g c s).2 (k + c) := by
  induction c generalizing s k with
  | zero => exact hO
  | succ c ih =>
    rw [D.remDn]
    split
    · exact (hO.rem _).mono (by omega)
    · exact (ih (hO.rem _)).mono (by omega)
theorem Okk.wre {s : DS} {k : Nat} (hO : Okk s k) (L : LS) (t : ByteArray) (hl : L.last ≤ 200) : Okk (wreS s L t) (k + 210) := by
  unfold wreS
  split
  · exact hO.mono (by omega)
  split
  · exact hO.mono (by omega)
  split
  · exact hO.mono (by omega)
  split
  · exact (hO.lay _ _).mono (by omega)
  · exact ((hO.lay _ _).remDn _ _).mono (by omega)
theorem Sm.wre {s : DS} {b k : Nat} (h : Sm s b) (hO : Okk s k) (L : LS) (t : ByteArray) (ht : t.size ≤ 300) : Sm (wreS s L t) (b + 308) := by
  unfold wreS
  split
  · exact h.mono (by omega)
  split
  · exact h.mono (by omega)
  split
  · exact h.mono (by omega)
  split
  · exact h.lay _ _ ht
  · exact (h.lay _ _ ht).remDn (hO.lay _ _) _ _
/-! ### disk, log, and the caller's rows -/
structure WX (B db m lb : Nat) (s : DS) (L : LS) (v : Value) (va : Value) (all : List ByteArray) (vn : Value) (next : List ByteArray) (w0 w : World) : Prop where
  wi : WInv B db m lb s L v w
  ra : w.ownsRow B 9 1 va all.length (strs all)
  rn : w.ownsRow B 9 1 vn next.length (strs next)
  aa : ∀ j, va.ownBlock = some j → ¬ WFoot db m lb v j
  an : ∀ j, vn.ownBlock = some j → ¬ WFoot db m lb v j
  ax : ∀ j, va.ownBlock = some j → vn.ownBlock ≠ some j
  bel : Below B w0 w
/-- a block of none of them -/
structure KX (db m lb : Nat) (v va vn : Value) (w : World) (x : Nat) (o : Obj) : Prop where
  lt : x < w.heap.size
  ow : ¬ WFoot db m lb v x
  oa : va.ownBlock ≠ some x
  on : vn.ownBlock ≠ some x
  is : w.heap[x]? = some o
section
variable {B db m lb : Nat} {s s' : DS} {L L' : LS} {v va vn : Value} {all next : List ByteArray} {w0 w w1 : World}
theorem WX.size (h : WX B db m lb s L v va all vn next w0 w) : B ≤ w.heap.size := Nat.le_trans h.wi.l.hB (Nat.le_of_lt h.wi.l.lt)
theorem WX.low (h : WX B db m lb s L v va all vn next w0 w) (hb : Below w.heap.size w w1) : WX B db m lb s L v va all vn next w0 w1 :=
  ⟨h.wi.low hb, G.owns_below h.ra hb, G.owns_below h.rn hb, h.aa, h.an, h.ax, h.bel.trans (belowLe h.size hb)⟩
theorem KX.low {x : Nat} {o : Obj} (h : KX db m lb v va vn w x o) (hb : Below w.heap.size w w1) : KX db m lb v va vn w1 x o := ⟨Nat.lt_of_lt_of_le h.lt hb.size, h.ow, h.oa, h.on, (hb.block x h.lt).trans h.is⟩
theorem KX.new (h : WX B db m lb s L v va all vn next w0 w) (o : Obj) : KX db m lb v va vn (w.alloc o) w.heap.size o :=
  ⟨by simp, fun hf => Nat.lt_irrefl _ (h.wi.foot_lt hf), fun hf => Nat.lt_irrefl _ (owns_lt h.ra hf), fun hf => Nat.lt_irrefl _ (owns_lt h.rn hf), G.heap_new _ _⟩
theorem WX.step (h : WX B db m lb s L v va all vn next w0 w) (k : WStep B db m lb v w s' L' w1) : ∃ v', WX B db m lb s' L' v' va all vn next w0 w1 ∧ ∀ x o, KX db m lb v va vn w x o → KX db m lb v' va vn w1 x o := by
  have hb := WStep.below h.wi h.bel k
  obtain ⟨v', h1, h2, h3⟩ := k
  have nf : ∀ j, j < w.heap.size → ¬ WFoot db m lb v j → ¬ WFoot db m lb v' j := fun j hj hn hf => by
    rcases h2 j hf with h4 | h4
    · exact hn h4
    · omega
  exact ⟨v', ⟨h1, owns_kept h.ra fun j hj => h3.block j (owns_lt h.ra hj) (h.aa j hj), owns_kept h.rn fun j hj => h3.block j (owns_lt h.rn hj) (h.an j hj), fun j hj => nf j (owns_lt h.ra hj) (h.aa j hj), fun j hj => nf j (owns_lt h.rn hj) (h.an j hj), h.ax, hb⟩,
    fun x o hx => ⟨Nat.lt_of_lt_of_le hx.lt h3.size, nf x hx.lt hx.ow, hx.oa, hx.on, (h3.block x hx.lt hx.ow).trans hx.is⟩⟩
theorem WX.dstep (h : WX B db m lb s L v va all vn next w0 w) (k : DStep B db m w s' w1) : WX B db m lb s' L v va all vn next w0 w1 :=
  ⟨h.wi.dstep k, owns_kept h.ra fun j hj => k.2.block j (owns_lt h.ra hj) (fun hf => h.aa j hj (.inl hf)), owns_kept h.rn fun j hj => k.2.block j (owns_lt h.rn hj) (fun hf => h.an j hj (.inl hf)), h.aa, h.an, h.ax, DStep.below h.wi.t.d h.bel k⟩
theorem KX.dstep {x : Nat} {o : Obj} (h : KX db m lb v va vn w x o) (k : DStep B db m w s' w1) : KX db m lb v va vn w1 x o := ⟨Nat.lt_of_lt_of_le h.lt k.2.size, h.ow, h.oa, h.on, (k.2.block x h.lt (fun hf => h.ow (.inl hf))).trans h.is⟩
theorem WInv.grow (h : WInv B db m lb s L v w) {u : Value} (hu : ∀ j, u.ownBlock = some j → ¬ WFoot db m lb v j) (hB : ∀ j, u.ownBlock = some j → B ≤ j) (hg : w.grownBy w1 u.ownBlock) : WInv B db m lb s L v w1 := by
  have kp : ∀ j, WFoot db m lb v j → w1.heap[j]? = w.heap[j]? := fun j hj => hg.block j (h.foot_lt hj) (fun e => hu j e.symm hj)
  refine ⟨⟨h.t.d.keep fun j hj => kp j (.inl hj), fun j hj => ?_, h.t.pos⟩, h.l.keep fun j hj => kp j (.inr hj)⟩
  have h1 := h.t.tab j hj
  have hlt := World.block_lt_of_cell? w _ h1
  have hb : w1.heap[0]? = w.heap[0]? := hg.block 0 hlt (fun e' => by have := hB 0 e'.symm; have := h.t.pos; omega)
  rw [← h1]
  simp [World.cell?, hb]
theorem WX.appA (h : WX B db m lb s L v va all vn next w0 w) (hg : w.grownBy w1 va.ownBlock) {va' : Value} {all' : List ByteArray} {n : Nat} (ho : w1.ownsRow B 9 1 va' n (strs all')) (hn : n = all'.length) (hx : va'.ownBlock = va.ownBlock ∨ va'.ownBlock = some w.heap.size) :
    WX B db m lb s L v va' all' vn next w0 w1 ∧ ∀ x o, KX db m lb v va vn w x o → KX db m lb v va' vn w1 x o := by
  subst hn
  have hB := fun j hj => G.owns_base h.ra j hj
  refine ⟨⟨h.wi.grow h.aa hB hg, ho, owns_kept h.rn fun j hj => hg.block j (owns_lt h.rn hj) (fun e => h.ax j e.symm hj), fun j hj => ?_, h.an, fun j hj hn => ?_, G.below_grown h.bel h.size h.ra hg⟩, fun x o hk => ⟨Nat.lt_of_lt_of_le hk.lt hg.size, hk.ow, fun e => ?_, hk.on, (hg.block x hk.lt (fun e => hk.oa e.symm)).trans hk.is⟩⟩
  · rcases hx with e | e
    · exact h.aa j (e ▸ hj)
    · rw [e] at hj; cases hj; exact fun hf => Nat.lt_irrefl _ (h.wi.foot_lt hf)
  · rcases hx with e | e
    · exact h.ax j (e ▸ hj) hn
    · rw [e] at hj; cases hj; exact Nat.lt_irrefl _ (owns_lt h.rn hn)
  · rcases hx with e1 | e1
    · exact hk.oa (e1 ▸ e)
    · rw [e1] at e; cases e; exact Nat.lt_irrefl _ hk.lt
theorem WX.appN (h : WX B db m lb s L v va all vn next w0 w) (hg : w.grownBy w1 vn.ownBlock) {vn' : Value} {next' : List ByteArray} {n : Nat} (ho : w1.ownsRow B 9 1 vn' n (strs next')) (hn : n = next'.length) (hx : vn'.ownBlock = vn.ownBlock ∨ vn'.ownBlock = some w.heap.size) :
    WX B db m lb s L v va all vn' next' w0 w1 := by
  subst hn
  have hB := fun j hj => G.owns_base h.rn j hj
  refine ⟨h.wi.grow h.an hB hg, owns_kept h.ra fun j hj => hg.block j (owns_lt h.ra hj) (fun e => h.ax j hj e.symm), ho, h.aa, fun j hj => ?_, fun j hj hn => ?_, G.below_grown h.bel h.size h.rn hg⟩
  · rcases hx with e | e
    · exact h.an j (e ▸ hj)
    · rw [e] at hj; cases hj; exact fun hf => Nat.lt_irrefl _ (h.wi.foot_lt hf)
  · rcases hx with e | e
    · exact h.ax j hj (e ▸ hn)
    · rw [e] at hn; cases hn; exact Nat.lt_irrefl _ (owns_lt h.ra hj)
/-- another row stands for the records -/
theorem WX.rowA (h : WX B db m lb s L v va all vn next w0 w) {va' : Value} {all' : List ByteArray} (ho : w.ownsRow B 9 1 va' all'.length (strs all')) (ha : ∀ j, va'.ownBlock = some j → ¬ WFoot db m lb v j) (hn : ∀ j, va'.ownBlock = some j → vn.ownBlock ≠ some j) : WX B db m lb s L v va' all' vn next w0 w :=
  ⟨h.wi, ho, h.rn, ha, h.an, hn, h.bel⟩
theorem WX.rowN (h : WX B db m lb s L v va all vn next w0 w) {vn' : Value} {next' : List ByteArray} (ho : w.ownsRow B 9 1 vn' next'.length (strs next')) (ha : ∀ j, vn'.ownBlock = some j → ¬ WFoot db m lb v j) (hn : ∀ j, va.ownBlock = some j → vn'.ownBlock ≠ some j) : WX B db m lb s L v va all vn' next' w0 w :=
  ⟨h.wi, h.ra, ho, h.aa, ha, hn, h.bel⟩
/-- an empty row in a new block -/
theorem row_none (w : World) (B : Nat) (hB : B ≤ w.heap.size) : (w.alloc (.cells #[] 9)).ownsRow B 9 1 (.slice (some ⟨w.heap.size, 0, none⟩) 0 0) ([] : List ByteArray).length (strs []) :=
  World.ownsRow_lit (e := 9) (size := 1) w #[] 0 hB (by unfold maxLen; omega) rfl
theorem WX.noneA (h : WX B db m lb s L v va all vn next w0 w) : WX B db m lb s L v (.slice (some ⟨w.heap.size, 0, none⟩) 0 0) [] vn next w0 (w.alloc (.cells #[] 9)) := by
  refine (h.low (bel_allocT _ _)).rowA (row_none w B h.size) (fun j hj hf => ?_) (fun j hj hn => ?_)
  · have e : w.heap.size = j := by simpa [Value.ownBlock] using hj
    exact Nat.lt_irrefl _ (e ▸ h.wi.foot_lt hf)
  · have e : w.heap.size = j := by simpa [Value.ownBlock] using hj
    exact Nat.lt_irrefl _ (e ▸ owns_lt h.rn hn)
theorem WX.noneN (h : WX B db m lb s L v va all vn next w0 w) : WX B db m lb s L v va all (.slice (some ⟨w.heap.size, 0, none⟩) 0 0) [] w0 (w.alloc (.cells #[] 9)) := by
  refine (h.low (bel_allocT _ _)).rowN (row_none w B h.size) (fun j hj hf => ?_) (fun j hj hn => ?_)
  · have e : w.heap.size = j := by simpa [Value.ownBlock] using hj
    exact Nat.lt_irrefl _ (e ▸ h.wi.foot_lt hf)
  · have e : w.heap.size = j := by simpa [Value.ownBlock] using hn
    exact Nat.lt_irrefl _ (e ▸ owns_lt h.ra hj)
/-- another log, in new blocks, stands for the log -/
theorem WX.log {lb' : Nat} {v' : Value} (h : WX B db m lb s L v va all vn next w0 w) (k : DStep B db m w s' w1) (hl : LInv w.heap.size db lb' L' v' w1) : WX B db m lb' s' L' v' va all vn next w0 w1 := by
  have h1 := h.dstep k
  have hw : WInv B db m lb' s' L' v' w1 := ⟨h1.wi.t, hl.cells, Nat.le_trans h.size hl.hB, owns_base_le hl.row h.size⟩
  refine ⟨hw, h1.ra, h1.rn, fun j hj hf => ?_, fun j hj hf => ?_, h.ax, h1.bel⟩
  · rcases hf with hf | hf
    · exact h.aa j hj (.inl hf)
    · have := hl.foot_B hf; have := owns_lt h.ra hj; omega
  · rcases hf with hf | hf
    · exact h.an j hj (.inl hf)
    · have := hl.foot_B hf; have := owns_lt h.rn hj; omega
end
end Go.Proofs.YtdmjbdecemajpaaDoor.D
namespace Go.Proofs.YtdmjbdecemajpaaDoor.D
set_option linter.unusedVariables false
set_option linter.unusedSimpArgs false
open Go.RowKit
/-- what a log's numbers keep to -/
structure Bnd (L : LS) (k : Nat) : Prop where
  gen : 0 ≤ L.gen ∧ L.gen ≤ 9999
  last : 0 ≤ L.last ∧ L.last ≤ 99 + k
  pend : 0 ≤ L.pend ∧ L.pend ≤ k
  recs : L.recs.length ≤ k
theorem Bnd.mono {L : LS} {k j : Nat} (h : Bnd L k) (hj : k ≤ j) : Bnd L j := ⟨h.gen, by have := h.last; omega, by have := h.pend; omega, by have := h.recs; omega⟩
theorem Bnd.end_ {L : LS} {k : Nat} (h : Bnd L k) (E : Int) : Bnd (endL L E) k := ⟨h.gen, h.last, h.pend, h.recs⟩
theorem room_k (s : DS) (L : LS) {k : Nat} (h : Bnd L k) : Bnd (roomP s L).L k ∧ 0 ≤ (roomP s L).k ∧ (roomP s L).k ≤ 99 + k + 1 := by
  have h1 := h.last
  have h0 : Bnd { L with pend := 0 } k := ⟨h.gen, h.last, ⟨Int.le_refl _, by show (0 : Int) ≤ k; omega⟩, h.recs⟩
  unfold roomP
  split
  · exact ⟨h, by show 0 ≤ L.last; omega, by show L.last ≤ _; omega⟩
  split
  · exact ⟨h, by show (0 : Int) ≤ 0; omega, by show (0 : Int) ≤ _; omega⟩
  split
  · split
    · exact ⟨h.end_ _, by show (0 : Int) ≤ 0; omega, by show (0 : Int) ≤ _; omega⟩
    · exact ⟨⟨h.gen, h.last, ⟨Int.le_refl _, by show (0 : Int) ≤ k; omega⟩, h.recs⟩, by show 0 ≤ L.last + 1; omega, by show L.last + 1 ≤ _; omega⟩
  · exact ⟨h, by show 0 ≤ L.last + 1; omega, by show L.last + 1 ≤ _; omega⟩
theorem Bnd.wap {s : DS} {L : LS} {k : Nat} (h : Bnd L k) (t : ByteArray) : Bnd (wapL s L t) (k + 1) := by
  obtain ⟨r1, r2, r3⟩ := room_k s L h
  unfold wapL
  split
  · exact h.mono (by omega)
  split
  · exact h.mono (by omega)
  split
  · exact r1.mono (by omega)
  · unfold addL
    split
    · exact (r1.end_ _).mono (by omega)
    · refine ⟨r1.gen, ⟨r2, by show (roomP s L).k ≤ _; omega⟩, ?_, ?_⟩
      · have := r1.pend
        show 0 ≤ (roomP s L).L.pend + 1 ∧ (roomP s L).L.pend + 1 ≤ _
        omega
      · have := r1.recs
        show ((roomP s L).L.recs ++ [t]).length ≤ _
        rw [List.length_append]
        show _ + 1 ≤ _
        omega
theorem Bnd.wsy {s : DS} {L : LS} {k : Nat} (h : Bnd L k) : Bnd (wsyL s L) k := by
  have h0 : Bnd { L with pend := 0 } k := ⟨h.gen, h.last, ⟨Int.le_refl _, by show (0 : Int) ≤ k; omega⟩, h.recs⟩
  unfold wsyL
  split
  · exact h
  split
  · split
    · exact h.end_ _
    · exact ⟨h.gen, h.last, ⟨Int.le_refl _, by show (0 : Int) ≤ k; omega⟩, h.recs⟩
  · exact h0
theorem Bnd.wre {s : DS} {L : LS} {k : Nat} (h : Bnd L k) (t : ByteArray) : Bnd (wreL s L t) k := by
  unfold wreL
  split
  · exact h
  split
  · exact h
  split
  · exact h
  · rename_i h9
    split
    · exact h.end_ _
    split
    · exact h.end_ _
    · have := h.gen
      refine ⟨?_, ⟨Int.le_refl _, by show (0 : Int) ≤ _; omega⟩, ⟨Int.le_refl _, by show (0 : Int) ≤ k; omega⟩, Nat.zero_le _⟩
      show 0 ≤ L.gen + 1 ∧ L.gen + 1 ≤ 9999
      omega
theorem aws_at : ∀ (l : List Aw) (k : Nat) (h : k < l.length), (l.flatMap awc)[k * 4]? = some (.int .i64 l[k].kind) ∧ (l.flatMap awc)[k * 4 + 1]? = some (.int .i64 l[k].n) ∧ (l.flatMap awc)[k * 4 + 2]? = some (.string l[k].s) ∧ (l.flatMap awc)[k * 4 + 3]? = some (.slice l[k].A l[k].picks.length l[k].c)
  | a :: l, 0, _ => ⟨rfl, rfl, rfl, rfl⟩
  | a :: l, k + 1, h => by
    have := aws_at l k (by simpa using h)
    have e : ∀ i, ((a :: l).flatMap awc)[(k + 1) * 4 + i]? = (l.flatMap awc)[k * 4 + i]? := fun i => by
      rw [List.flatMap_cons, List.getElem?_append_right (by simp [awc]; omega)]
      congr 1
      simp [awc]; omega
    have e0 := e 0
    simp only [Nat.add_zero] at e0
    simp only [e, e0, List.getElem_cons_succ]
    exact this
theorem add_off (ad : Addr) (m j : Nat) (hj : 0 < j) : ad.add (m + j) = ⟨(ad.add m).block, (ad.add m).off + j, none⟩ := by
  unfold Addr.add
  rw [if_neg (by omega)]
  by_cases h : m = 0
  · rw [if_pos h, h, Nat.zero_add]
  · rw [if_neg h, Nat.add_assoc]
theorem pk_of {W wr : World} {db m : Nat} {A : Option Addr} {picks : List Int} (h : ∀ k (hk : k < picks.length), ∃ ad, A = some ad ∧ W.cell? (ad.add k) = some (.int .i64 picks[k])) (hb : Below W.heap.size W wr) (hd : W.heap.size ≤ db) (hm : W.heap.size ≤ m) : Pk db m wr A picks := by
  refine ⟨fun k hk => ?_, fun k hk ad ha hf => ?_⟩
  · obtain ⟨ad, ha, hc⟩ := h k hk
    exact ⟨ad, ha, G.cell_below hb hc⟩
  · obtain ⟨ad', ha', hc⟩ := h k hk
    rw [ha] at ha'; cases ha'
    have := World.block_lt_of_cell? W _ hc
    rw [add_block] at this
    rcases hf with e | e <;> omega
theorem inv0 : Inv (X1 (frm ⟨#[]⟩)) ⟨1, ⟨#[]⟩, [], 0, 0, false⟩ ⟨#[]⟩ [] 0 [] := by
  have hs : (frm (⟨#[]⟩ : ByteArray)).size = 8 := by rw [frm_size]; rfl
  refine ⟨fun e => (by cases e), .inl ⟨1, 0, fun _ => [], 0, false, [], ⟨⟨by decide, by decide⟩, by decide, by decide, fun i hi => absurd hi (by omega), fun i hi => absurd hi (by omega), ?_, fun i hi => absurd hi (by omega), fun K hK => absurd hK (by omega), fun _ => rfl⟩, fun a ha => ?_, fun e => (by cases e), rfl, Nat.le_refl _, fun _ => ⟨rfl, rfl, rfl, rfl, Int.le_refl _, rfl⟩⟩⟩
  · rw [hs]; simp [X1, M.get]
  · refine .inl ?_
    by_cases e : a = 100
    · subst e; decide
    · simp [X1, M.get, e] at ha
theorem sm0 : Sm (X1 (frm ⟨#[]⟩)) 1000 := fun a f hf => by
  have hs : (frm (⟨#[]⟩ : ByteArray)).size = 8 := by rw [frm_size]; rfl
  by_cases e : a = 100
  · subst e
    have : f = ⟨frm ⟨#[]⟩, 8⟩ := by simp [X1, M.get] at hf; exact hf.symm
    subst this
    show (frm (⟨#[]⟩ : ByteArray)).size ≤ _
    omega
  · simp [X1, M.get, e] at hf
/-- what stands at the head of the k-th round -/
def WI (B db m lb : Nat) (T : ByteArray) (va : Value) (sf : Nat) (vn : Value) (k : Nat) (w0 wr : World) : Prop :=
  ∃ s L v all next, WX B db m lb s L v va all vn next w0 wr ∧ Okk s (300 * (k + 1)) ∧ Inv s L T all sf next ∧ Bnd L k ∧ all.length ≤ k ∧ next.length ≤ k ∧ Sm s (1000 + 308 * (k + 1))
theorem last_split {l : List ByteArray} {x : ByteArray} (h : l.getLast? = some x) : ∃ pre, l = pre ++ [x] := by
  rw [List.getLast?_eq_some_iff] at h
  exact h

def firstLoop : Code → Option Code
  | .loop c => some c
  | .seq a b => match firstLoop a with
    | some c => some c
    | none => firstLoop b
  | .block _ c => firstLoop c
  | .cond _ a b => match firstLoop a with
    | some c => some c
    | none => firstLoop b
  | _ => none
noncomputable def lbody : Code := ((Tryd.f11.body.bind firstLoop).getD .skip)
def LR (B db m n : Nat) (w0 : World) (pw pt pa ps pn i : Value) (wr : World) : Prop :=
  ∃ (k lb : Nat) (T : ByteArray) (sf : Nat), k ≤ n ∧ k ≤ 80 ∧ i = .int .i64 k ∧ pw = .pointer (some ⟨lb, 0, none⟩) ∧ pt = .string T ∧ ps = .int .i64 sf ∧ Hid (WI B db m lb T pa sf pn k w0 wr)
def mu (n : Nat) (a : Act) : Nat := n - (intOf (a.tmps.getD 10 undef)).toNat
set_option maxRecDepth 1000000 in
def FI (B db m n c : Nat) (A : Option Addr) (w0 : World) (c1 c5 c21 c22 c23 c24 c25 c26 c27 c28 c29 c30 c31 c32 c33 c34 c35 : Value) (a : Act) (wr : World) : Prop :=
  ∃ u2 u4 u6 u7 u8 u9 u10 u11 u12 u13 u14 u15 u16 u17 u18 u19 u20 u36 u37 u38 u39 u40 u41 u42 u43 u44 u45 u46 u47 u48 u49 u50 u51 u52 u53 u54 u55 u56 u57 u58 u59 u60 u61 u62 u63 u64 u65 u66 u67 u68 u69 u70 u71 u72 u73 u74 u75 u76 u77 u78 u79 u80 u81 u82 u83 u84 u85 u86 u87 u88 u89 u90 u91 u92 u93 u94 u95 u96 u97 u98 u99 u100 u101 u102 u103 u104 u105 u106 u107 u108 u109 u110 u111 u112 u113 u114 u115 u116 u117 u118 u119 u120 u121 u122 u123 u124 u125 u126 u127 u128 u129 u130 u131 u132 u133 u134 u135 u136 u137 u138 u139 u140 u141 u142 u143 u144 u145 u146 u147 u148 u149 u150 u151 u152 u153 u154 u155 u156 u157 u158 u159 u160 u161 u162 u163 u164 u165 u166 u167 u168 u169 u170 u171 u172 u173 u174 u175 u176 u177 u178 u179 u180 u181 u182 u183 u184 u185 u186 u187 u188 u189 u190 u191 u192 u193 u194 u195 u196 u197 u198 u199 u200 u201 u202 u203 u204 u205 u206 u207 : Value, LR B db m n w0 u4 u6 u7 u8 u9 u10 wr ∧ a = ⟨#[.slice A n c, c1, u2, .pointer (some ⟨db, 0, none⟩), u4, c5, u6, u7, u8, u9, u10, u11, u12, u13, u14, u15, u16, u17, u18, u19, u20, c21, c22, c23, c24, c25, c26, c27, c28, c29, c30, c31, c32, c33, c34, c35, u36, u37, u38, u39, u40, u41, u42, u43, u44, u45, u46, u47, u48, u49, u50, u51, u52, u53, u54, u55, u56, u57, u58, u59, u60, u61, u62, u63, u64, u65, u66, u67, u68, u69, u70, u71, u72, u73, u74, u75, u76, u77, u78, u79, u80, u81, u82, u83, u84, u85, u86, u87, u88, u89, u90, u91, u92, u93, u94, u95, u96, u97, u98, u99, u100, u101, u102, u103, u104, u105, u106, u107, u108, u109, u110, u111, u112, u113, u114, u115, u116, u117, u118, u119, u120, u121, u122, u123, u124, u125, u126, u127, u128, u129, u130, u131, u132, u133, u134, u135, u136, u137, u138, u139, u140, u141, u142, u143, u144, u145, u146, u147, u148, u149, u150, u151, u152, u153, u154, u155, u156, u157, u158, u159, u160, u161, u162, u163, u164, u165, u166, u167, u168, u169, u170, u171, u172, u173, u174, u175, u176, u177, u178, u179, u180, u181, u182, u183, u184, u185, u186, u187, u188, u189, u190, u191, u192, u193, u194, u195, u196, u197, u198, u199, u200, u201, u202, u203, u204, u205, u206, u207], []⟩
set_option maxRecDepth 1000000 in
def FX (db n c : Nat) (A : Option Addr) (w : World) (c1 c5 c21 c22 c23 c24 c25 c26 c27 c28 c29 c30 c31 c32 c33 c34 c35 : Value) (a : Act) (wr : World) : Prop :=
  ∃ u2 u4 u6 u7 u8 u9 u10 u11 u12 u13 u14 u15 u16 u17 u18 u19 u20 u36 u37 u38 u39 u40 u41 u42 u43 u44 u45 u46 u47 u48 u49 u50 u51 u52 u53 u54 u55 u56 u57 u58 u59 u60 u61 u62 u63 u64 u65 u66 u67 u68 u69 u70 u71 u72 u73 u74 u75 u76 u77 u78 u79 u80 u81 u82 u83 u84 u85 u86 u87 u88 u89 u90 u91 u92 u93 u94 u95 u96 u97 u98 u99 u100 u101 u102 u103 u104 u105 u106 u107 u108 u109 u110 u111 u112 u113 u114 u115 u116 u117 u118 u119 u120 u121 u122 u123 u124 u125 u126 u127 u128 u129 u130 u131 u132 u133 u134 u135 u136 u137 u138 u139 u140 u141 u142 u143 u144 u145 u146 u147 u148 u149 u150 u151 u152 u153 u154 u155 u156 u157 u158 u159 u160 u161 u162 u163 u164 u165 u166 u167 u168 u169 u170 u171 u172 u173 u174 u175 u176 u177 u178 u179 u180 u181 u182 u183 u184 u185 u186 u187 u188 u189 u190 u191 u192 u193 u194 u195 u196 u197 u198 u199 u200 u201 u202 u203 u204 u205 u206 u207 : Value, Below w.heap.size w wr ∧ a = ⟨#[.slice A n c, c1, u2, .pointer (some ⟨db, 0, none⟩), u4, c5, u6, u7, u8, u9, u10, u11, u12, u13, u14, u15, u16, u17, u18, u19, u20, c21, c22, c23, c24, c25, c26, c27, c28, c29, c30, c31, c32, c33, c34, c35, u36, u37, u38, u39, u40, u41, u42, u43, u44, u45, u46, u47, u48, u49, u50, u51, u52, u53, u54, u55, u56, u57, u58, u59, u60, u61, u62, u63, u64, u65, u66, u67, u68, u69, u70, u71, u72, u73, u74, u75, u76, u77, u78, u79, u80, u81, u82, u83, u84, u85, u86, u87, u88, u89, u90, u91, u92, u93, u94, u95, u96, u97, u98, u99, u100, u101, u102, u103, u104, u105, u106, u107, u108, u109, u110, u111, u112, u113, u114, u115, u116, u117, u118, u119, u120, u121, u122, u123, u124, u125, u126, u127, u128, u129, u130, u131, u132, u133, u134, u135, u136, u137, u138, u139, u140, u141, u142, u143, u144, u145, u146, u147, u148, u149, u150, u151, u152, u153, u154, u155, u156, u157, u158, u159, u160, u161, u162, u163, u164, u165, u166, u167, u168, u169, u170, u171, u172, u173, u174, u175, u176, u177, u178, u179, u180, u181, u182, u183, u184, u185, u186, u187, u188, u189, u190, u191, u192, u193, u194, u195, u196, u197, u198, u199, u200, u201, u202, u203, u204, u205, u206, u207], []⟩
end Go.Proofs.YtdmjbdecemajpaaDoor.D
namespace Go.Proofs.YtdmjbdecemajpaaDoor.D
set_option linter.unusedVariables false
set_option linter.unusedSimpArgs false
open Go.RowKit
/-- what Start and two times Open make -/
structure OffF (s : DS) (P : List Int) (k : Nat) (s2 s3 : DS) (L1 : LS) : Prop where
  e : staE s = 0
  l1 : Live (staS s P)
  k1 : Okk (staS s P) (300 * (k + 1) + 1)
  m1 : ∀ no, ((staS s P).fl no).data.size ≤ 100000
  o1 : openP (staS s P) = ⟨0, s2, some L1⟩
  l2 : Live s2
  k2 : Okk s2 (300 * (k + 1) + 113)
  m2 : ∀ no, (s2.fl no).data.size ≤ 100000
  o2 : openP s2 = ⟨0, s3, some L1⟩
  k3 : Okk s3 (300 * (k + 2))
  m3 : Sm s3 (1000 + 308 * (k + 2))
  inv : Inv s3 L1 L1.text L1.recs L1.recs.length []
  bnd : Bnd L1 (k + 1)
  len : L1.recs.length ≤ k + 1
theorem off_facts {s : DS} {L : LS} {T : ByteArray} {all : List ByteArray} {sf : Nat} {next : List ByteArray} {k : Nat} (P : List Int) (hk : k < 80) (hoff : s.off = true) (hOk : Okk s (300 * (k + 1))) (hI : Inv s L T all sf next) (hal : all.length ≤ k) (hSm : Sm s (1000 + 308 * (k + 1))) :
    ∃ s2 s3 L1, OffF s P k s2 s3 L1 ∧ ((L1.text = T ∧ sf ≤ L1.recs.length ∧ ∃ r, all = L1.recs ++ r) ∨ (next.getLast? = some L1.text ∧ L1.recs = [])) := by
  obtain ⟨s2, L1, o1, l2, f2, hw, hlen⟩ := start_step hOk hI hoff P
  have k1 := hOk.sta P
  have m1 := hSm.sta hOk P
  have k2 := k1.openP
  have m2 := m1.openP k1
  rw [o1] at k2 m2
  obtain ⟨s3, o2, l3, f3⟩ := Fin.again k2 l2 f2
  have k3 := Okk.openP k2
  have m3 := Sm.openP m2 k2
  rw [o2] at k3 m3
  have hb : Bnd L1 (k + 1) := by
    obtain ⟨_, hp, n, D, q, hl, hO, _, _, _⟩ := f2
    have := hO.gr
    have := hO.nn
    exact ⟨by omega, by omega, by omega, by omega⟩
  exact ⟨s2, s3, L1, ⟨by unfold staE; rw [if_pos hoff], (start_spec hOk hoff (hI.1 hoff) P).1, k1, fun no => Nat.le_trans (m1.fl no) (by omega), o1, l2, k2.mono (by omega), fun no => Nat.le_trans (m2.fl no) (by omega), o2, k3.mono (by omega), m3.mono (by omega), f3.inv l3, hb, by omega⟩, hw⟩
theorem same_yes (va vb : Value) (l : List ByteArray) (w : World) (ha : G.HasRow w 1 va l.length (strs l)) (hb : G.HasRow w 1 vb l.length (strs l)) : Calls Tryd.prog 27 #[va, vb] w fun e w' => e = .returned (.bool true) ∧ Below w.heap.size w w' := by
  have := same_any va vb l l w ha hb
  rw [decide_eq_true rfl] at this
  exact this
theorem off_final {B db m lb1 lb2 : Nat} {s2 s3 : DS} {L1 : LS} {v1 v7 va vn rv : Value} {all next r1 : List ByteArray} {w0 w3 w4 w6 w7 w9 : World} (h3 : WX B db m lb1 s2 L1 v1 va all vn next w0 w3) (b4 : Below w3.heap.size w3 w4) (hr : w4.ownsRow w3.heap.size 9 1 rv r1.length (strs r1))
    (b6 : Below w4.heap.size w4 w6) (k7 : DStep B db m w6 s3 w7) (l7 : LInv w6.heap.size db lb2 L1 v7 w7) (b9 : Below w7.heap.size w7 w9) :
    w9.ownsRow w3.heap.size 9 1 rv r1.length (strs r1) ∧ WX B db m lb2 s3 L1 v7 rv r1 vn next w0 w9 ∧ WX B db m lb1 s3 L1 v1 va all vn next w0 w7 := by
  have h6 := (h3.low b4).low b6
  have h7 := h6.log k7 l7
  have hr6 := G.owns_below hr b6
  have hnf : ∀ j, rv.ownBlock = some j → ¬ Foot db m j := fun j hj => by
    obtain ⟨c, hc⟩ := owns_block hr6 hj
    exact h6.wi.t.d.m_not hc (by decide)
  have hr7 := owns_kept hr6 fun j hj => k7.2.block j (owns_lt hr6 hj) (hnf j hj)
  have hr9 := G.owns_below hr7 b9
  have h9 := h7.low b9
  refine ⟨hr9, h9.rowA (owns_base_le hr9 h3.size) (fun j hj hf => ?_) (fun j hj hn => ?_), h6.dstep k7⟩
  · rcases hf with hf | hf
    · exact hnf j hj hf
    · have := l7.foot_B hf; have := owns_lt hr6 hj; omega
  · have := G.owns_base hr j hj
    have := owns_lt h3.rn hn
    omega
end Go.Proofs.YtdmjbdecemajpaaDoor.D
