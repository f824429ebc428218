/- An argument of acts: a row of them. -/
import Derived.Test.YthmknlflgajnpaaQue9
import Derived.Test.YthmknlflgajnpaaRowz
import Derived.Deep.Strs
namespace Go.Proofs.Ythmknlflgajnpaa
open Go.RowKit
theorem cells3 : Try.prog.cellsOf 3 = 1 := by kernel_rfl
theorem cells9 : Try.prog.cellsOf 9 = 1 := by kernel_rfl
theorem cells30 : Try.prog.cellsOf 30 = 2 := by kernel_rfl
theorem cells32 : Try.prog.cellsOf 32 = 4 := by kernel_rfl
theorem ref_opens {H : Type} {enc : TypeId × Value → H} {W : World} {base : Nat} {sp : Nat → Bool} {held : Bool} (n : Nat) (cs : List Value) (x : DataW H × List MemPlace) (hl : cs.length = 2) (h : DataW.trod enc Try.prog W base sp held n 30 cs = some x) : ∃ a : Ref, cs = rc a := by
  obtain ⟨c0, c1, rfl⟩ : ∃ c0 c1, cs = [c0, c1] := by
    match cs, hl with
    | [a, b], _ => exact ⟨a, b, rfl⟩
  obtain ⟨y0, y1, m, _, _, h0, h1⟩ := ChangeShapes.trod_struct2 Try.underlying30 h
  rw [show Try.prog.cellsOf _ = 1 from cells3] at h0
  rw [show Try.prog.cellsOf _ = 1 from cells9] at h1
  obtain ⟨k, hk, _⟩ := DataW.trod_int Try.underlying3 h0
  obtain ⟨s, hs, _⟩ := DataW.trod_string Try.underlying9 h1
  simp at hk hs
  exact ⟨⟨k, s⟩, by simp [rc, hk, hs]⟩
theorem act_opens {H : Type} {enc : TypeId × Value → H} {W : World} {base : Nat} {sp : Nat → Bool} {held : Bool} (n : Nat) (cs : List Value) (x : DataW H × List MemPlace) (hl : cs.length = 4) (h : DataW.trod enc Try.prog W base sp held n 32 cs = some x) : ∃ a : Act7, cs = ac a := by
  obtain ⟨c0, c1, c2, c3, rfl⟩ : ∃ c0 c1 c2 c3, cs = [c0, c1, c2, c3] := by
    match cs, hl with
    | [a, b, c, d], _ => exact ⟨a, b, c, d, rfl⟩
  obtain ⟨y0, y1, y2, m, _, _, h0, h1, h2⟩ := Deep.trod_struct3 Try.underlying32 h
  rw [show Try.prog.cellsOf _ = 1 from cells3] at h0
  rw [show Try.prog.cellsOf _ = 2 from cells30] at h1
  rw [show Try.prog.cellsOf _ = 1 from cells3] at h2
  obtain ⟨k, hk, _⟩ := DataW.trod_int Try.underlying3 h0
  obtain ⟨r, hr⟩ := ref_opens _ _ _ rfl h1
  obtain ⟨n, hn, _⟩ := DataW.trod_int Try.underlying3 h2
  simp [rc] at hk hr hn
  exact ⟨⟨k, r, n⟩, by simp [ac, hk, hr, hn]⟩
theorem acts {H : Type} {enc : TypeId × Value → H} {W : World} {base b0 : Nat} {sp : Nat → Bool} {held : Bool} {r : Reach} {v : Value} {d : DataW H} {ps : List MemPlace}
    (hv : Value.okWide Try.prog W r b0 22 v) (h : DataW.Trod enc Try.prog W base sp held 22 v d ps) :
    ∃ (l : List Act7) (A : Option Addr) (c : Nat), v = .slice A l.length c ∧ G.HasRow W 4 v l.length (l.flatMap ac) :=
  O.rows ac 4 Try.underlying22 cells32 (fun _ => rfl) act_opens hv h
end Go.Proofs.Ythmknlflgajnpaa
