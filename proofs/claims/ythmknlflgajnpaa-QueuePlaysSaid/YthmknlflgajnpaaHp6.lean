/- The heap: Push and Pop. -/
import Derived.Test.YthmknlflgajnpaaHp5
namespace Go.Proofs.Ythmknlflgajnpaa
set_option linter.unusedVariables false
set_option linter.unusedSimpArgs false
open Go.RowKit
theorem upL_len (p : List Item) (j : Nat) : (upL p j).length = p.length := by
  induction j using Nat.strongRecOn generalizing p with
  | ind j ih =>
    by_cases h0 : j = 0
    · rw [h0, upL_zero]
    cases hl : lessAt p j ((j - 1) / 2)
    · rw [upL_stop p j hl]
    · rw [upL_go p j h0 hl, ih ((j - 1) / 2) (by omega), swapL_len]
theorem downL_len (p : List Item) (n i : Nat) : (downL p n i).length = p.length := by
  obtain ⟨m, hm⟩ : ∃ m, m = n - i := ⟨_, rfl⟩
  induction m using Nat.strongRecOn generalizing p i with
  | ind m ih =>
    by_cases h0 : 2 * i + 1 < n
    · cases hl : lessAt p (kidL p n i) i
      · rw [downL_stop p n i hl]
      · have hk := kidL_gt p n i
        have hk2 := kidL_lt p n i h0
        rw [downL_go p n i h0 hl, ih (n - kidL p n i) (by omega) _ _ rfl, swapL_len]
    · rw [downL_end p n i h0]
theorem wv_form {B qb : Nat} {s : St} {d : QD} {w : World} (h : Inv B qb s d w) (hne : 0 < s.pile.length) : ∃ g cap, d.wv = .slice (some ⟨g, 0, none⟩) s.pile.length cap ∧ PR w g cap s.pile ∧ B ≤ g := by
  rcases h.pile with ⟨_, ⟨_, h0⟩ | ⟨g, cap, cur, hv, _⟩⟩
  · omega
  · have hp := h.pile
    rw [hv] at hp
    obtain ⟨h1, h2, h3⟩ := PR.of_own hp
    exact ⟨g, cap, hv, h1, h3⟩
theorem hp_of {B qb : Nat} {s : St} {d : QD} {w : World} (h : Inv B qb s d w) {g cap : Nat} (hv : d.wv = .slice (some ⟨g, 0, none⟩) s.pile.length cap) (hp : PR w g cap s.pile) : HP w qb (qcells s d) g cap s.pile w :=
  ⟨h.cells, by rw [← hv]; rfl, hp, ⟨rfl, rfl, rfl, Nat.le_refl _, fun _ _ _ => rfl⟩⟩
/-- the pile has been turned in its block -/
theorem Inv.heap {B qb : Nat} {s : St} {d : QD} {w1 w2 : World} (h : Inv B qb s d w1) {g cap : Nat} {p' : List Item} (hv : d.wv = .slice (some ⟨g, 0, none⟩) s.pile.length cap) (hp : HP w1 qb (qcells s d) g cap p' w2) (hl : p'.length = s.pile.length) (hB : B ≤ g) :
    Inv B qb { s with pile := p' } d w2 ∧ Fr (Foot qb d) w1 w2 := by
  have hg : d.wv.ownBlock = some g := by rw [hv]; rfl
  have kp : ∀ j, j < w1.heap.size → j ≠ g → w2.heap[j]? = w1.heap[j]? := fun j hj hne => hp.gr.block j hj (fun e => hne (by injection e))
  refine ⟨⟨hp.q, h.hB, ?_, ?_, fun i => (h.maps i).of_block (kp _ (h.maps i).lt ?_), h.mB, h.apart⟩, ⟨hp.gr.os, hp.gr.tape, hp.gr.output, hp.gr.size, fun j hj hF => kp j hj (fun e => hF (.inr (.inr (.inr (by rw [hg, e])))))⟩⟩
  · refine owns_kept h.line (fun j hj => kp j (h.foot_lt (.inr (.inr (.inl hj)))) ?_)
    obtain ⟨c, hc⟩ := owns_block h.line hj
    obtain ⟨c', hc'⟩ := owns_block h.pile hg
    exact cells_not hc hc' (by decide)
  · show w2.ownsRow B 64 3 d.wv p'.length (p'.flatMap ic)
    rw [hv, ← hl]
    exact hp.pr.own hB
  · obtain ⟨c', hc'⟩ := owns_block h.pile hg
    exact (map_not_cells hc' (h.maps i)).symm
/-- a step behind a step -/
theorem Step.then {B qb : Nat} {s1 s2 : St} {d : QD} {w w1 w2 : World} (h : ∃ d', Inv B qb s1 d' w1 ∧ (∀ j, Foot qb d' j → Foot qb d j ∨ w.heap.size ≤ j) ∧ Fr (Foot qb d) w w1 ∧ Step B qb d' w1 s2 w2) : Step B qb d w s2 w2 := by
  obtain ⟨d', _, h2, h3, d2, k1, k2, k3⟩ := h
  refine ⟨d2, k1, fun j hj => ?_, h3.trans k3 h2⟩
  rcases k2 j hj with h4 | h4
  · exact h2 j h4
  · exact .inr (Nat.le_trans h3.size h4)
set_option maxRecDepth 100000 in
set_option maxHeartbeats 4000000 in
theorem hpush_any (B qb : Nat) (s : St) (d : QD) (x : Item) (w : World) (h : Inv B qb s d w) (hl : s.pile.length ≤ 100000) :
    Calls Try.prog 37 #[.iface 67 (.pointer (some ⟨qb, 7, none⟩)), .iface 64 (iv x)] w fun e w' => e = .returned (.tuple #[]) ∧ Step B qb d w { s with pile := upL (s.pile ++ [x]) s.pile.length } w' := by
  have C1 := Lib.hid (ppush_any B qb s d x w h hl)
  have m1 := m_push qb w
  clear h
  unfold iv
  go_enter Try.func37, Try.ntmps37
  go_upto_region 1 with (go_at_call 69; refine C1.out.mono ?_; rintro e w1 ⟨rfl, d1, hI1, hf1, hF1⟩)
  clear m1
  obtain ⟨g, cap, hv, hpr, hB⟩ := wv_form hI1 (show 0 < (s.pile ++ [x]).length by simp)
  have hlen : (s.pile ++ [x]).length = s.pile.length + 1 := by simp
  have m2 := m_len qb d1.wv w1 (by rw [hI1.cell]; rfl)
  have C2 := Lib.hid (up_any w1 qb g cap (qcells { s with pile := s.pile ++ [x] } d1) (s.pile ++ [x]) s.pile.length (by simp) (by simp; omega) w1 (hp_of hI1 hv hpr))
  have HV := Lib.hid hv
  have HI := Lib.hid hI1
  have HS := Lib.hid (And.intro hf1 hF1)
  rw [hv] at m2
  have e1 : (((s.pile ++ [x]).length : Nat) : Int) - 1 = (s.pile.length : Int) := by rw [hlen]; omega
  clear hf1 hF1 hI1 hv hpr
  go_wp2_with (first | (go_at_call 58; refine (plen_any _ _ _ _).mono ?_; rintro e w9 ⟨rfl, hw9⟩; have hw8 := hw9.symm; clear hw9; subst hw8) | (go_at_call 40; refine C2.out.mono ?_; rintro e w2 ⟨rfl, hp2⟩))
  go_end0
  obtain ⟨k1, k2⟩ := HI.out.heap HV.out hp2 (upL_len _ _) hB
  exact ⟨rfl, Step.then ⟨d1, HI.out, HS.out.1, HS.out.2, Step.of k1 k2⟩⟩
end Go.Proofs.Ythmknlflgajnpaa
