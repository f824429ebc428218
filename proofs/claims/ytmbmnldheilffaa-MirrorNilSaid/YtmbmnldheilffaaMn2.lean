/- Objects behind a slice, and acts: how they lie in memory, what an argument reads as, and what is gone through (far). -/
import Derived.Test.YtmbmnldheilffaaMo8
import Derived.Test.YtmbmnldheilffaaMi9
namespace Go.Proofs.Ytmbmnldheilffaa
set_option linter.unusedVariables false
set_option linter.unusedSimpArgs false
open Go.RowKit
/-- an object with the places of its lists -/
structure OE where
  o : Ob
  f : Sl
  l : Sl
  c : Sl
  p : Sl
  i : Sl
def ec (e : OE) : List Value := (oc e.o e.f e.l e.c e.p e.i).toList
theorem ec_len (e : OE) : (ec e).length = 19 := rfl
structure ObsR (w : World) (A : Option Addr) (L : List OE) : Prop where
  row : RowR w A (L.flatMap ec)
  rows : ∀ e ∈ L, RowsR w e.o e.f e.l e.c e.p e.i
theorem ObsR.below {w w1 : World} {A : Option Addr} {L : List OE} (h : ObsR w A L) (hb : Below w.heap.size w w1) : ObsR w1 A L := ⟨h.row.below hb, fun e he => (h.rows e he).below hb⟩
theorem ObsR.at {w : World} {A : Option Addr} {L : List OE} (h : ObsR w A L) {k : Nat} {e : OE} (hk : L[k]? = some e) : ∃ b o, A = some ⟨b, o, none⟩ ∧ w.rangeAt b (o + k * 19) (ec e) ∧ RowsR w e.o e.f e.l e.c e.p e.i := by
  have key : ∀ j u, (ec e)[j]? = some u → ∃ ad, A = some ad ∧ w.cell? (ad.add (k * 19 + j)) = some u := fun j u hj => by
    have hj19 : j < 19 := by
      rcases Nat.lt_or_ge j 19 with h1 | h1
      · exact h1
      · rw [List.getElem?_eq_none (by rw [ec_len]; exact h1)] at hj; cases hj
    exact h.row _ _ ((flat_at ec 19 ec_len L k e hk j hj19).trans hj)
  have h0 : 0 < L.length := by
    rcases Nat.lt_or_ge k L.length with h1 | h1
    · omega
    · rw [List.getElem?_eq_none h1] at hk; cases hk
  obtain ⟨e0, he0⟩ : ∃ e0, L[0]? = some e0 := ⟨_, List.getElem?_eq_getElem h0⟩
  obtain ⟨ad, hA, hc⟩ := h.row 0 (.int .i64 e0.o.kind) (by
    have := flat_at ec 19 ec_len L 0 e0 he0 0 (by omega)
    simpa [ec, oc] using this)
  have hsp : ad.spot = none := by
    have h1 : ad.add 0 = ad := by unfold Addr.add; simp
    rw [h1] at hc
    unfold World.cell? at hc
    split at hc
    · split at hc
      · cases hc
      · rename_i h2; simpa using h2
    · cases hc
  obtain ⟨b, o, sp⟩ := ad
  simp only at hsp
  subst hsp
  refine ⟨b, o, hA, fun j u hj => ?_, h.rows e (List.mem_of_getElem? hk)⟩
  obtain ⟨ad', hA', hc'⟩ := key j u hj
  rw [hA] at hA'
  injection hA' with hA'
  subst hA'
  rw [Addr.add_mid, ← Nat.add_assoc] at hc'
  exact hc'
theorem wpList_load_elem {ops : Array Oper} {rest : List Oper} {op : Oper} {a : Act} {w : World} {Q : Exit → Act → World → Prop} (hgd : op.guard = none) (x : Operand) (ho : op.op = .load 26 x)
    (b p : Nat) (hx : a.eval x = .pointer (some ⟨b, p, none⟩)) (e : OE) (hc : w.rangeAt b p (ec e)) (h : wpList Try.prog ops Q rest (a.put op.dst (.agg (oc e.o e.f e.l e.c e.p e.i))) w) : wpList Try.prog ops Q (op :: rest) a w :=
  wpList_load_mid hgd 26 x ho b p hx (ec e) _ hc Try.underlying26 rfl size32 (by rw [ec, Array.toArray_toList]; exact h)
/-! ### acts -/
structure AcE where
  k : Int
  e : OE
  L : List OE
  A : Option Addr
  c : Nat
/-- the cells of an act -/
def ac (x : AcE) : Array Value := #[.int .i64 x.k, .int .i64 x.e.o.kind, .string x.e.o.name, .int .i64 x.e.o.uid, .int .i64 x.e.o.version, .bool x.e.o.deleting, .slice x.e.f.1 x.e.o.fins.length x.e.f.2, .slice x.e.l.1 x.e.o.labels.length x.e.l.2, .slice x.e.c.1 x.e.o.cidrs.length x.e.c.2, .string x.e.o.status, .int .i64 x.e.o.type, .int .i64 x.e.o.policy,
    .slice x.e.p.1 x.e.o.fams.length x.e.p.2, .slice x.e.i.1 x.e.o.ips.length x.e.i.2, .string x.e.o.v4, .string x.e.o.v6, .int .i64 x.e.o.bits, .string x.e.o.sel, .string x.e.o.about, .string x.e.o.reason, .slice x.A x.L.length x.c]
def avs (x : AcE) : List Value := .int .i64 x.k :: (ec x.e ++ [.slice x.A x.L.length x.c])
theorem ac_avs (x : AcE) : (ac x).toList = avs x := rfl
theorem avs_len (x : AcE) : (avs x).length = 21 := rfl
theorem ac_one (x : AcE) : (ac x).all (·.oneCell') = true := by simp [ac, Value.oneCell']
theorem sizeA : (Try.prog.info? 29).map (·.size) = some 21 := by kernel_rfl
structure AcOk (W : World) (x : AcE) : Prop where
  rows : RowsR W x.e.o x.e.f x.e.l x.e.c x.e.p x.e.i
  sz : ObSz x.e.o
  len : x.L.length ≤ 140737488351232
  szs : ∀ e ∈ x.L, ObSz e.o
  obs : ObsR W x.A x.L
theorem AcOk.below {W W1 : World} {x : AcE} (h : AcOk W x) (hb : Below W.heap.size W W1) : AcOk W1 x := ⟨h.rows.below hb, h.sz, h.len, h.szs, h.obs.below hb⟩
/-- an act in a block -/
def AcIn (W : World) (b : Nat) (x : AcE) : Prop := W.heap[b]? = some (.cells (ac x) 29 (0, 0))
theorem AcIn.below {W W1 : World} {b : Nat} {x : AcE} (h : AcIn W b x) (hb : Below W.heap.size W W1) : AcIn W1 b x := (hb.block _ (Array.getElem?_eq_some_iff.1 h).1).trans h
theorem AcIn.cell {W : World} {b : Nat} {x : AcE} (h : AcIn W b x) (i : Nat) : W.cell? ⟨b, i, none⟩ = (ac x)[i]? := by
  unfold AcIn at h
  simp [World.cell?, h]
theorem AcIn.range {W : World} {b : Nat} {x : AcE} (h : AcIn W b x) : W.rangeAt b 1 (ec x.e) := fun j v hj => by
  have hj19 : j < 19 := by
    rcases Nat.lt_or_ge j 19 with h1 | h1
    · exact h1
    · rw [List.getElem?_eq_none (by rw [ec_len]; exact h1)] at hj; cases hj
  rw [h.cell, ← Array.getElem?_toList, ac_avs, avs, Nat.add_comm, List.getElem?_cons_succ, List.getElem?_append_left (by rw [ec_len]; exact hj19)]
  exact hj
def longA (x : AcE) : Bool := longO x.e.o || decide (20 < x.L.length) || x.L.any fun e => longO e.o
theorem longA_false {x : AcE} (h : longA x = false) : longO x.e.o = false ∧ x.L.length ≤ 20 ∧ ∀ e ∈ x.L, longO e.o = false := by
  unfold longA at h
  rw [Bool.or_eq_false_iff, Bool.or_eq_false_iff, decide_eq_false_iff_not, List.any_eq_false] at h
  exact ⟨h.1.1, by omega, fun e he => by simpa using h.2 e he⟩
section
variable {H : Type} {enc : TypeId × Value → H} {W : World} {base : Nat} {sp : Nat → Bool} {held : Bool}
theorem cells27 : Try.prog.cellsOf 27 = 1 := by kernel_rfl
theorem cellsA : Try.prog.cellsOf 29 = 21 := by kernel_rfl
theorem bytes32 : Try.prog.bytesOf 26 = 288 := by kernel_rfl
theorem bytesA : Try.prog.bytesOf 29 = 320 := by kernel_rfl
theorem ob_openE : P.Opens enc Try.prog W base sp held 26 fun cs => ∃ e : OE, cs = ec e ∧ (RowsR W e.o e.f e.l e.c e.p e.i ∧ ObSz e.o) := by
  refine ob_open.mono fun cs h => ?_
  obtain ⟨o, f, l, c, p, i, h1, h2, h3⟩ := h
  exact ⟨⟨o, f, l, c, p, i⟩, h1, h2, h3⟩
set_option maxRecDepth 100000 in
theorem obs_open : P.Opens enc Try.prog W base sp held 27 fun cs => ∃ (L : List OE) (A : Option Addr) (c : Nat), cs = [.slice A L.length c] ∧ L.length ≤ 140737488351232 ∧ (∀ e ∈ L, ObSz e.o) ∧ ObsR W A L := by
  have key := P.opens_slice (W := W) (enc := enc) (base := base) (sp := sp) (held := held) Try.underlying27 ec (fun e => RowsR W e.o e.f e.l e.c e.p e.i ∧ ObSz e.o) 19 288 cells32 bytes32 ec_len ob_openE
  refine key.mono fun cs h => ?_
  obtain ⟨L, A, c, h1, h2, h3, h4⟩ := h
  exact ⟨L, A, c, h1, by omega, fun e he => (h3 e he).2, row_of h4, fun e he => (h3 e he).1⟩
theorem slice_val {P : Program} {w : World} {r : Reach} {b0 : Nat} {t e : TypeId} {v : Value} (ht : P.underlying t = some (.slice e)) (hv : Value.okWide P w r b0 t v) {A : Option Addr} {n c : Nat} (hc : v.cells.toList = [.slice A n c]) : v = .slice A n c := by
  obtain ⟨A', len, cap, rfl⟩ := Go.WideShapes.okWide_slice ht hv
  simp [Value.cells] at hc
  obtain ⟨rfl, rfl, rfl⟩ := hc
  rfl
def actR (W : World) (j : Nat) (cs : List Value) : Prop :=
  match j with
  | 0 => ∃ n : Int, cs = [.int .i64 n] ∧ (-9223372036854775808 ≤ n ∧ n ≤ 9223372036854775807)
  | 1 => ∃ e : OE, cs = ec e ∧ (RowsR W e.o e.f e.l e.c e.p e.i ∧ ObSz e.o)
  | 2 => ∃ (L : List OE) (A : Option Addr) (c : Nat), cs = [.slice A L.length c] ∧ L.length ≤ 140737488351232 ∧ (∀ e ∈ L, ObSz e.o) ∧ ObsR W A L
  | _ => True
theorem parts3 {cs : List Value} (h : cs.length = 21) : cs = (cs.drop 0).take 1 ++ ((cs.drop 1).take 19 ++ (cs.drop 20).take 1) := by
  have h1 : (cs.drop 20).take 1 = cs.drop 20 := List.take_of_length_le (by rw [List.length_drop]; omega)
  rw [h1, show cs.drop 20 = (cs.drop 1).drop 19 by rw [List.drop_drop], List.take_append_drop, List.drop_zero, List.take_append_drop]
set_option maxRecDepth 100000 in
theorem act_open : P.Opens enc Try.prog W base sp held 29 fun cs => ∃ x : AcE, cs = avs x ∧ AcOk W x := by
  refine (P.opens_struct Try.underlying29 (actR W) fun j f hj => ?_).mono fun cs ⟨hl, h⟩ => ?_
  · match j, hj with
    | 0, hj => simp at hj; subst hj; exact P.opens_i64 Try.underlying3
    | 1, hj => simp at hj; subst hj; exact ob_openE
    | 2, hj => simp at hj; subst hj; exact obs_open
    | k + 3, hj => simp at hj
  · rw [cellsA] at hl
    have q0 : actR W 0 ((cs.drop 0).take (Try.prog.cellsOf 3)) := h 0 ⟨ "Kind", 3, 0, false, "", "", 0⟩ rfl
    have q1 : actR W 1 ((cs.drop 1).take (Try.prog.cellsOf 26)) := h 1 ⟨ "O", 26, 1, false, "", "", 8⟩ rfl
    have q2 : actR W 2 ((cs.drop 20).take (Try.prog.cellsOf 27)) := h 2 ⟨ "L", 27, 20, false, "", "", 296⟩ rfl
    rw [cells3] at q0
    rw [cells32] at q1
    rw [cells27] at q2
    obtain ⟨a0, e0, b0⟩ := q0
    obtain ⟨e, e1, r1, z1⟩ := q1
    obtain ⟨L, A, c, e2, l2, z2, r2⟩ := q2
    have hp := parts3 hl
    rw [e0, e1, e2] at hp
    exact ⟨⟨a0, e, L, A, c⟩, hp, ⟨r1, z1, l2, z2, r2⟩⟩
set_option maxRecDepth 100000 in
/-- an argument of an act -/
theorem act_arg {v : Value} {d : DataW H} {ps : List MemPlace} {ts : List TypeId} {ds : List (DataW H)} {j : Nat}
    (h : DataW.Trod enc Try.prog W base sp held 29 v d ps) (hs : (DataW.weightsEach Try.prog ts ds).all (· ≤ reachBytes) = true) (ht : ts[j]? = some 29) (hd : ds[j]? = some d) : ∃ x : AcE, v = .agg (ac x) ∧ AcOk W x := by
  obtain ⟨fuel, hf⟩ := h
  obtain ⟨x, hc, hz⟩ := act_open _ _ _ hf (P.sz_of hs ht hd)
  exact ⟨x, P.agg_of hc (by simp [ac]), hz⟩
/-- a row of acts -/
structure Acts (W : World) (A : Option Addr) (l : List AcE) : Prop where
  ok : ∀ x ∈ l, AcOk W x
  len : l.length ≤ 140737488351232
  row : RowR W A (l.flatMap avs)
theorem Acts.below {W W1 : World} {A : Option Addr} {l : List AcE} (h : Acts W A l) (hb : Below W.heap.size W W1) : Acts W1 A l := ⟨fun x hx => (h.ok x hx).below hb, h.len, h.row.below hb⟩
set_option maxRecDepth 100000 in
theorem acts_open : P.Opens enc Try.prog W base sp held 45 fun cs => ∃ (l : List AcE) (A : Option Addr) (c : Nat), cs = [.slice A l.length c] ∧ Acts W A l := by
  have key := P.opens_slice (W := W) (enc := enc) (base := base) (sp := sp) (held := held) Try.underlying45 avs (AcOk W) 21 320 cellsA bytesA avs_len act_open
  refine key.mono fun cs h => ?_
  obtain ⟨l, A, c, e, h1, h2, hr⟩ := h
  exact ⟨l, A, c, e, h2, by omega, row_of hr⟩
set_option maxRecDepth 100000 in
theorem acts_arg {v : Value} {d : DataW H} {ps : List MemPlace} {ts : List TypeId} {ds : List (DataW H)} {j : Nat} {r : Reach} {b0 : Nat} (hv : Value.okWide Try.prog W r b0 45 v)
    (h : DataW.Trod enc Try.prog W base sp held 45 v d ps) (hs : (DataW.weightsEach Try.prog ts ds).all (· ≤ reachBytes) = true) (ht : ts[j]? = some 45) (hd : ds[j]? = some d) : ∃ (l : List AcE) (A : Option Addr) (c : Nat), v = .slice A l.length c ∧ Acts W A l := by
  obtain ⟨fuel, hf⟩ := h
  obtain ⟨l, A, c, hc, hz⟩ := acts_open _ _ _ hf (P.sz_of hs ht hd)
  exact ⟨l, A, c, slice_val Try.underlying45 hv hc, hz⟩
end
end Go.Proofs.Ytmbmnldheilffaa
