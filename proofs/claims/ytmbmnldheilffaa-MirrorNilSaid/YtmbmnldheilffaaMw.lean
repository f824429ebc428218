/- Words for walks through regions with maps. -/
import Derived.Test.YtmbmnldheilffaaMi6
namespace Go.Proofs.Ytmbmnldheilffaa
set_option linter.unusedVariables false
set_option linter.unusedSimpArgs false
open Go.RowKit
section
variable {P : Program} {o : Oper} {a : Act} {w : World} {K : Act → World → Prop} {Q : Exit → Act → World → Prop}
theorem wpo_lookup (t : TypeId) (m k : Operand) (c : Bool) (hop : o.op = .lookup t m k c) (tt : Nat) (hd : o.dst = some tt) {vm vk v : Value} {w1 : World}
    (hm : a.eval m = vm) (hk : a.eval k = vk) (hrun : (Instr.lookup t vm vk c).run P w = .ok v w1) (hK : K ⟨a.tmps.setIfInBounds tt v, a.defers⟩ w1) : Oper.wp P o a w K Q := by
  unfold Oper.wp
  simp [execOp, hop, hm, hk, hrun, Result.andThen]
  rw [show (⟨a.tmps.setIfInBounds tt v, a.defers⟩ : Act) = a.put o.dst v by rw [hd]; rfl] at hK
  exact hK
theorem wpo_mapUpdate (t : TypeId) (m k x : Operand) (hop : o.op = .mapUpdate t m k x) (hd : o.dst = none) {vm vk vx : Value} {w1 : World}
    (hm : a.eval m = vm) (hk : a.eval k = vk) (hx : a.eval x = vx) (hrun : (Instr.mapUpdate t vm vk vx).run P w = .ok () w1) (hK : K a w1) : Oper.wp P o a w K Q := by
  unfold Oper.wp
  simp [execOp, hop, hm, hk, hx, hrun, Result.andThen]
  rw [show a = a.put o.dst undef by rw [hd]; rfl] at hK
  exact hK
theorem wpo_delete (m k : Operand) (t t' : TypeId) (hop : o.op = .call { callee := .builtin .delete, args := #[m, k], argTypes := #[t, t'] }) (hd : o.dst = none) {vm vk : Value} {w1 : World}
    (hm : a.eval m = vm) (hk : a.eval k = vk) (hrun : (Builtin.delete_ #[t, t'] o.type #[vm, vk]).run P w = .ok (.tuple #[]) w1) (hK : K a w1) : Oper.wp P o a w K Q := by
  unfold Oper.wp
  simp [execOp, hop, resolve, invoke, builtin, hm, hk, hrun, Result.andThen]
  rw [show a = a.put o.dst (.tuple #[]) by rw [hd]; rfl] at hK
  exact hK
end
/-- a look-up among the reads of a region -/
theorem lookup_yields {P : Program} {o : Oper} {a : Act} {V : World} (t : TypeId) (m k : Operand) (c : Bool) (hop : o.op = .lookup t m k c) {vm vk v : Value} (hm : a.eval m = vm) (hk : a.eval k = vk) (hrun : (Instr.lookup t vm vk c).run P V = .ok v V) :
    (execOp a.eval o).run P V = .ok (.value v) V := by
  simp [execOp, hop, hm, hk, hrun, Result.andThen]
theorem wp_buildS {o : Oper} {a : Act} {w : World} {K : Act → World → Prop} {Q : Exit → Act → World → Prop} (d t : Nat) (s : ByteArray) (hd : o.dst = some d) (ho : o.op = .buildSlice 22 1 #[(0, .tmp t)]) (hx : a.tmps[t]?.getD undef = .string s)
    (h : K ⟨a.tmps.setIfInBounds d (.slice (some ⟨w.heap.size, 0, none⟩) 1 1), a.defers⟩ (w.alloc (.cells #[.string s] 9))) : Oper.wp Try.prog o a w K Q := by
  obtain ⟨dst, op, ty, pos, after, guard⟩ := o
  simp only at ho hd
  subst ho; subst hd
  go_simp
  exact h
theorem zeroSl (w : World) : (zeroValue 22).run Try.prog w = .ok (.slice none 0 0) w := by kernel_rfl
theorem zeroOv (w : World) : (zeroValue 26).run Try.prog w = .ok (.agg zob) w := by kernel_rfl
/-- what a look-up of the holders answers -/
theorem look_hol {B mb : Nat} {d : MD} {w : World} (h : MInv B mb d w) (k : TK) (n : Nat) : (Instr.lookup 55 (.map (some d.mh)) (tv k) false).run Try.prog (w.drewN n) = .ok (holdV d k) (w.drewN n) := by
  have := M.lookup_run tk_law Try.underlying55 zeroSl false k (w := w.drewN n) (h.drewN n).mhol
  rw [mapv_get] at this
  exact this
theorem upd_size' (w : World) (r : Nat) (o : Obj) : (M.upd w r o).heap.size = w.heap.size := M.upd_size _ _ _
theorem holds_put (d : MD) (k : TK) (x : HV) (k' : TK) : holds { d with hol := M.put d.hol k x } k' = if k' = k then x.l else holds d k' := by
  unfold holds
  simp only [M.get_put]
  split <;> rfl
theorem holds_del {d : MD} (hn : M.Nodup d.hol) (k k' : TK) : holds { d with hol := M.del d.hol k } k' = if k' = k then [] else holds d k' := by
  unfold holds
  simp only [M.get_del hn]
  split <;> rfl
/-- blocks that a region reads: the mirror, an object's box, a key's box -/
structure IS (mb mo mh x kb : Nat) (cs : Array Value) (k : TK) (V : World) : Prop where
  m : V.heap[mb]? = some (.cells #[.map (some mo), .map (some mh)] 57 (0, 0))
  o : V.heap[x]? = some (.cells cs 26 (0, 0))
  t : V.heap[kb]? = some (.cells #[.int .i64 k.1, .string k.2] 68 (0, 0))
theorem IS.keep {mb mo mh x kb : Nat} {cs : Array Value} {k : TK} {V V' : World} (h : IS mb mo mh x kb cs k V) (hk : ∀ j, j < V.heap.size → j = mb ∨ j = x ∨ j = kb → V'.heap[j]? = V.heap[j]?) : IS mb mo mh x kb cs k V' :=
  ⟨(hk mb (Array.getElem?_eq_some_iff.1 h.m).1 (.inl rfl)).trans h.m, (hk x (Array.getElem?_eq_some_iff.1 h.o).1 (.inr (.inl rfl))).trans h.o, (hk kb (Array.getElem?_eq_some_iff.1 h.t).1 (.inr (.inr rfl))).trans h.t⟩
theorem IS.below {mb mo mh x kb : Nat} {cs : Array Value} {k : TK} {V V' : World} (h : IS mb mo mh x kb cs k V) (hb : Below V.heap.size V V') : IS mb mo mh x kb cs k V' := h.keep fun j hj _ => hb.block j hj
theorem IS.c1 {mb mo mh x kb : Nat} {cs : Array Value} {k : TK} {V : World} (h : IS mb mo mh x kb cs k V) : V.cell? ⟨mb, 1, none⟩ = some (.map (some mh)) := by simp [World.cell?, h.m]
theorem IS.kc {mb mo mh x kb : Nat} {cs : Array Value} {k : TK} {V : World} (h : IS mb mo mh x kb cs k V) : V.cell? ⟨kb, 0, none⟩ = some (.int .i64 k.1) ∧ V.cell? ⟨kb, 1, none⟩ = some (.string k.2) := by simp [World.cell?, h.t]
theorem IS.xc {mb mo mh x kb : Nat} {cs : Array Value} {k : TK} {V : World} (h : IS mb mo mh x kb cs k V) (i : Nat) (v : Value) (hv : cs[i]? = some v) : V.cell? ⟨x, i, none⟩ = some v := by simp [World.cell?, h.o, hv]
end Go.Proofs.Ytmbmnldheilffaa
