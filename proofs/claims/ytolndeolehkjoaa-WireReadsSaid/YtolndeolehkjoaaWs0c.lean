/- Small lemmas on objects for the walks of Wire: alike to itself, the zero object, a shape's lengths, elements of a slice of objects. -/
import Derived.Test.YtolndeolehkjoaaSm1c
import Derived.Test.YtolndeolehkjoaaCodTc
import Derived.Test.YtolndeolehkjoaaUp1
import Derived.Test.YtolndeolehkjoaaRp1c
import Derived.Test.YtolndeolehkjoaaPa1c
namespace Go.Proofs.Ytolndeolehkjoaa
set_option linter.unusedVariables false
set_option linter.unusedSimpArgs false
open Go.RowKit CodP
theorem sameB_self (a : Ob) : sameB a a = true := by simp [sameB, flatB]
theorem RowsR.zero (w : World) : RowsR w zeroOb Sl0 Sl0 Sl0 Sl0 Sl0 := ⟨RowR.nil _ _, RowR.nil _ _, RowR.nil _ _, RowR.nil _ _, RowR.nil _ _⟩
theorem zero_len : zeroOb.fins.length ≤ 1000000 ∧ zeroOb.labels.length ≤ 1000000 ∧ zeroOb.cidrs.length ≤ 1000000 ∧ zeroOb.fams.length ≤ 1000000 ∧ zeroOb.ips.length ≤ 1000000 := by decide
theorem shape_len (o : Ob) (h : CodP.shape o = true) : o.fins.length ≤ 1000000 ∧ o.labels.length ≤ 1000000 ∧ o.cidrs.length ≤ 1000000 ∧ o.fams.length ≤ 1000000 ∧ o.ips.length ≤ 1000000 := by
  have hf := fits_of o h
  exact ⟨by have := hf.fins.1; omega, by have := hf.labels.1; omega, by have := hf.cidrs.1; omega, by have := hf.fams.1; omega, by have := hf.ips.1; omega⟩
theorem load_mid_yields {S : World → Prop} {a : Act} {op : Oper} (x : Operand) (ho : op.op = .load 32 x) (b p : Nat) (hx : a.eval x = .pointer (some ⟨b, p, none⟩)) (e : OE) (hS : ∀ w, S w → w.rangeAt b p (ec e)) :
    ∀ w, S w → (execOp a.eval op).run Try.prog w = .ok (.value (.agg (oc e.o e.f e.l e.c e.p e.i))) w := fun w hw => by
  have h := run_loadAt_mid (P := Try.prog) w b p 32 (ec e) _ (hS w hw) Try.underlying32 rfl size32
  unfold execOp
  simp only [ho, hx, Sem.run_bind, h, Result.andThen_ok]
  rw [ec, Array.toArray_toList]
  rfl
theorem range_below {w w1 : World} {b p : Nat} {cs : List Value} (h : w.rangeAt b p cs) (hb : Below w.heap.size w w1) : w1.rangeAt b p cs := fun j v hj => G.cell_below hb (h j v hj)
end Go.Proofs.Ytolndeolehkjoaa
