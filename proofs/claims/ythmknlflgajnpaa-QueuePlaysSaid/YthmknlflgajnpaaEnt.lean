/- The queue's Again: an entry that is counted up. -/
import Derived.Test.YthmknlflgajnpaaQue2
import Derived.Test.YthmknlflgajnpaaTk
namespace Go.Proofs.Ythmknlflgajnpaa
set_option linter.unusedVariables false
set_option linter.unusedSimpArgs false
open Go.RowKit
theorem wpo_lookup {P : Program} {o : Oper} {a : Act} {w : World} {K : Act → World → Prop} {Q : Exit → Act → World → Prop} (t : TypeId) (m k : Operand) (c : Bool) (hop : o.op = .lookup t m k c) (tt : Nat) (hd : o.dst = some tt) {vm vk v : Value} {w1 : World}
    (hm : a.eval m = vm) (hk : a.eval k = vk) (hrun : (Instr.lookup t vm vk c).run P w = .ok v w1) (hK : K ⟨a.tmps.setIfInBounds tt v, a.defers⟩ w1) : Oper.wp P o a w K Q := by
  unfold Oper.wp
  simp [execOp, hop, hm, hk, hrun, Result.andThen]
  rw [show (⟨a.tmps.setIfInBounds tt v, a.defers⟩ : Act) = a.put o.dst v by rw [hd]; rfl] at hK
  exact hK
theorem wpo_mapEntry {P : Program} {o : Oper} {a : Act} {w : World} {K : Act → World → Prop} {Q : Exit → Act → World → Prop} (t : TypeId) (m k : Operand) (hop : o.op = .mapEntry t m k) (tt : Nat) (hd : o.dst = some tt) {vm vk v : Value} {w1 : World}
    (hm : a.eval m = vm) (hk : a.eval k = vk) (hrun : (Instr.mapEntry t vm vk).run P w = .ok v w1) (hK : K ⟨a.tmps.setIfInBounds tt v, a.defers⟩ w1) : Oper.wp P o a w K Q := by
  unfold Oper.wp
  simp [execOp, hop, hm, hk, hrun, Result.andThen]
  rw [show (⟨a.tmps.setIfInBounds tt v, a.defers⟩ : Act) = a.put o.dst v by rw [hd]; rfl] at hK
  exact hK
theorem wpo_entryStore {P : Program} {o : Oper} {a : Act} {w : World} {K : Act → World → Prop} {Q : Exit → Act → World → Prop} (t : TypeId) (m k x : Operand) (hop : o.op = .entryStore t m k x) (hd : o.dst = none) {vm vk vx : Value} {w1 : World}
    (hm : a.eval m = vm) (hk : a.eval k = vk) (hx : a.eval x = vx) (hrun : (Instr.entryStore t vm vk vx).run P w = .ok () w1) (hK : K a w1) : Oper.wp P o a w K Q := by
  unfold Oper.wp
  simp [execOp, hop, hm, hk, hx, hrun, Result.andThen]
  rw [show a = a.put o.dst undef by rw [hd]; rfl] at hK
  exact hK
/-- an entry of a map of the queue is taken, then written -/
theorem mentry {B qb : Nat} {s : St} {d : QD} {w : World} (h : Inv B qb s d w) (i : Fin 4) (k : Int) (nm : ByteArray) (v : Int) :
    ∃ o o2 st, (Instr.mapEntry 56 (.map (some (d.m i))) (.agg #[.int .i64 k, .string nm])).run Try.prog w = .ok (.tuple #[.int .i64 (num (s.mp i) ⟨k, nm⟩), goInt st]) (M.upd w (d.m i) o) ∧
      (Instr.lookup 56 (.map (some (d.m i))) (.agg #[.int .i64 k, .string nm]) false).run Try.prog (M.upd w (d.m i) o) = .ok (.int .i64 (num (s.mp i) ⟨k, nm⟩)) (M.upd w (d.m i) o) ∧
      (Instr.entryStore 56 (.map (some (d.m i))) (goInt st) (.int .i64 v)).run Try.prog (M.upd w (d.m i) o) = .ok () (M.upd (M.upd w (d.m i) o) (d.m i) o2) ∧
      Inv B qb { s with mp := fun j => if j = i then M.put (s.mp i) ⟨k, nm⟩ v else s.mp j } d (M.upd (M.upd w (d.m i) o) (d.m i) o2) := by
  obtain ⟨o, o2, st, h1, h2⟩ := M.entry_run ref_law Try.underlying56 zero3 ⟨k, nm⟩ (.int .i64 v) (h.maps i)
  obtain ⟨a1, a2⟩ := h1 w rfl
  rw [mi_num] at a1 a2
  obtain ⟨b1, b2⟩ := h2 (M.upd w (d.m i) o) (M.upd_at _ _ _ (h.maps i).lt)
  refine ⟨o, o2, st, a1, ?_, b1, ?_⟩
  · rw [mi_put] at a2
    have := look0 a2 k nm
    rw [show num (M.put (s.mp i) ⟨k, nm⟩ (num (s.mp i) ⟨k, nm⟩)) ⟨k, nm⟩ = num (s.mp i) ⟨k, nm⟩ by rw [num, M.get_put, if_pos rfl]; rfl] at this
    exact this
  · refine h.map i _ (fun j hj => ?_) (by rw [← mi_put]; exact b2)
    rw [M.upd_other _ _ _ j hj, M.upd_other _ _ _ j hj]
theorem upd_cell {w : World} {r : Nat} {o : Obj} {g p : Nat} {v : Value} (h : w.cell? ⟨g, p, none⟩ = some v) (hg : g ≠ r) : (M.upd w r o).cell? ⟨g, p, none⟩ = some v := by
  have := M.upd_other w r o g hg
  simp only [World.cell?, this] at h ⊢
  exact h
end Go.Proofs.Ythmknlflgajnpaa
