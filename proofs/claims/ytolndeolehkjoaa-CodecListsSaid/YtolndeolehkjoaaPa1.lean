/- Objects one behind the other: PackAll. -/
import Derived.Test.YtolndeolehkjoaaPk1
import Derived.Test.YtolndeolehkjoaaLg2
import Derived.Test.YtolndeolehkjoaaCodT
import Derived.Deep.MidRow
namespace Go.Proofs.Ytolndeolehkjoaa
set_option linter.unusedVariables false
set_option linter.unusedSimpArgs false
open Go.RowKit CodP
/-- an object in memory -/
structure OE where
  o : Ob
  f : Sl
  l : Sl
  c : Sl
  p : Sl
  i : Sl
def ec (e : OE) : List Value := (oc e.o e.f e.l e.c e.p e.i).toList
theorem ec_len (e : OE) : (ec e).length = 19 := rfl
structure ObsR (w : World) (A : Option Addr) (L : List OE) : Prop where
  row : RowR w A (L.flatMap ec)
  rows : ∀ e ∈ L, RowsR w e.o e.f e.l e.c e.p e.i
theorem ObsR.below {w w1 : World} {A : Option Addr} {L : List OE} (h : ObsR w A L) (hb : Below w.heap.size w w1) : ObsR w1 A L := ⟨h.row.below hb, fun e he => (h.rows e he).below hb⟩
theorem ObsR.at {w : World} {A : Option Addr} {L : List OE} (h : ObsR w A L) {k : Nat} {e : OE} (hk : L[k]? = some e) : ∃ b o, A = some ⟨b, o, none⟩ ∧ w.rangeAt b (o + k * 19) (ec e) ∧ RowsR w e.o e.f e.l e.c e.p e.i := by
  have key : ∀ j u, (ec e)[j]? = some u → ∃ ad, A = some ad ∧ w.cell? (ad.add (k * 19 + j)) = some u := fun j u hj => by
    have hj19 : j < 19 := by
      rcases Nat.lt_or_ge j 19 with h1 | h1
      · exact h1
      · rw [List.getElem?_eq_none (by rw [ec_len]; exact h1)] at hj; cases hj
    exact h.row _ _ ((flat_at ec 19 ec_len L k e hk j hj19).trans hj)
  have h0 : 0 < L.length := by
    rcases Nat.lt_or_ge k L.length with h1 | h1
    · omega
    · rw [List.getElem?_eq_none h1] at hk; cases hk
  obtain ⟨e0, he0⟩ : ∃ e0, L[0]? = some e0 := ⟨_, List.getElem?_eq_getElem h0⟩
  obtain ⟨ad, hA, hc⟩ := h.row 0 (.int .i64 e0.o.kind) (by
    have := flat_at ec 19 ec_len L 0 e0 he0 0 (by omega)
    simpa [ec, oc] using this)
  have hsp : ad.spot = none := by
    have h1 : ad.add 0 = ad := by unfold Addr.add; simp
    rw [h1] at hc
    unfold World.cell? at hc
    split at hc
    · split at hc
      · cases hc
      · rename_i h2; simpa using h2
    · cases hc
  obtain ⟨b, o, sp⟩ := ad
  simp only at hsp
  subst hsp
  refine ⟨b, o, hA, fun j u hj => ?_, h.rows e (List.mem_of_getElem? hk)⟩
  obtain ⟨ad', hA', hc'⟩ := key j u hj
  rw [hA] at hA'
  injection hA' with hA'
  subst hA'
  rw [Addr.add_mid, ← Nat.add_assoc] at hc'
  exact hc'
theorem string_fresh (T b : Nat) (w : World) (h : w.heap[b]? = some (.cells #[.pointer none, .slice none 0 0] T (0, 0))) :
    Calls Try.prog 43 #[.pointer (some ⟨b, 0, none⟩)] w fun e w' => e = .returned (.string ⟨#[]⟩) ∧ Below w.heap.size w w' := by
  have c1 : w.drew.cell? ⟨b, 1, none⟩ = some (.slice none 0 0) := by
    rw [Lib.cell_of_heap (show w.drew.heap[b]? = _ from h)]; rfl
  have hSD : (Builtin.unsafeSliceData_ #[67] 111 #[.slice none 0 0]).run Try.prog w.drew = .ok (.pointer none) w.drew := by kernel_rfl
  have hUS : (Builtin.unsafeString_ #[111, 3] 9 #[.pointer none, .int .i64 0]).run Try.prog w.drew = .ok (.string ⟨#[]⟩) w.drew := by kernel_rfl
  clear h
  go_enter Try.func43, Try.ntmps43
  go_wp2
  go_region
  all_goals (go_wp2; go_ret; exact ⟨rfl, G.bdrew (Below.refl _ _)⟩)
end Go.Proofs.Ytolndeolehkjoaa
