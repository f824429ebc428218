/- The heap: Pop. -/
import Derived.Test.YthmknlflgajnpaaHp6
namespace Go.Proofs.Ythmknlflgajnpaa
set_option linter.unusedVariables false
set_option linter.unusedSimpArgs false
open Go.RowKit
/-- another pile is stored -/
theorem Inv.setwv {B qb : Nat} {s : St} {d : QD} {w : World} (h : Inv B qb s d w) (l : List Item) (v : Value) (hv : w.ownsRow B 64 3 v l.length (l.flatMap ic)) :
    Inv B qb { s with pile := l } { d with wv := v } (w.setCell ⟨qb, 7, none⟩ v) := by
  have kp : ∀ j, j ≠ qb → (w.setCell ⟨qb, 7, none⟩ v).heap[j]? = w.heap[j]? := fun j hj => Below.heap_setCell _ _ _ _ hj
  refine ⟨?_, h.hB, ?_, ?_, fun i => (h.maps i).of_block (kp _ ?_), h.mB, h.apart⟩
  · rw [heap_setCell_same _ _ _ _ _ _ h.cells]
    simp [qcells]
  · refine owns_kept h.line (fun j hj => kp j ?_)
    obtain ⟨c, hc⟩ := owns_block h.line hj
    exact cells_not hc h.cells (by decide)
  · refine owns_kept hv (fun j hj => kp j ?_)
    obtain ⟨c, hc⟩ := owns_block hv hj
    exact cells_not hc h.cells (by decide)
  · exact (map_not_cells h.cells (h.maps i)).symm
theorem fr_set7 {F : Nat → Prop} (w : World) (r i : Nat) (v : Value) (h : F r) : Fr F w (w.setCell ⟨r, i, none⟩ v) :=
  ⟨rfl, rfl, rfl, by simp [World.setCell], fun j _ hj => Below.heap_setCell _ _ _ _ (fun e => hj (e ▸ h))⟩
theorem PR.init {w : World} {g cap : Nat} {q : List Item} {x : Item} (h : PR w g cap (q ++ [x])) : PR w g cap q := by
  obtain ⟨⟨r, h1, h2⟩, h3, h4⟩ := h
  rw [List.flatMap_append, List.append_assoc] at h1 h2
  exact ⟨⟨_, h1, h2⟩, by rw [List.length_append] at h3; omega, h4⟩
set_option maxRecDepth 100000 in
set_option maxHeartbeats 4000000 in
theorem ppop_any (B qb : Nat) (s : St) (d : QD) (q : List Item) (x : Item) (hq : s.pile = q ++ [x]) (w : World) (h : Inv B qb s d w) (hl : s.pile.length ≤ 1000000) :
    Calls Try.prog 68 #[.pointer (some ⟨qb, 7, none⟩)] w fun e w' => e = .returned (.iface 64 (iv x)) ∧ Step B qb d w { s with pile := q } w' := by
  obtain ⟨g, cap, hv, hpr, hB⟩ := wv_form h (by rw [hq]; simp)
  have hlen : s.pile.length = q.length + 1 := by rw [hq]; simp
  obtain ⟨m, hm⟩ : ∃ m, m = q.length := ⟨_, rfl⟩
  have hx : s.pile[m]? = some x := by rw [hq, hm]; simp
  have hcap := hpr.le
  have hmx := hpr.mx
  unfold maxLen at hmx
  rw [hlen, ← hm] at hv hcap
  obtain ⟨W, hW⟩ : ∃ W, W = (w.alloc (.cells #[.int .i64 0, .int .i64 0, .string ⟨#[]⟩] 64)).setRow w.heap.size (ica x) := ⟨_, rfl⟩
  have hbW : Below w.heap.size w W := by rw [hW]; exact bel_allocRow _ _ _ _
  have hbx : W.heap[w.heap.size]? = some (.cells (ica x) 64 (0, 0)) := by rw [hW]; exact setRow_heap _ _ _ _ _ _ (G.heap_new _ _)
  obtain ⟨xb, hxb⟩ : ∃ xb, xb = w.heap.size := ⟨_, rfl⟩
  rw [← hxb] at hbx
  have c7 : w.cell? ⟨qb, 7, none⟩ = some (.slice (some ⟨g, 0, none⟩) (m + 1) cap) := by rw [h.cell]; simp only [qcells, hv]; rfl
  have hI := h.below hbW
  have d7 : W.cell? ⟨qb, 7, none⟩ = some (.slice (some ⟨g, 0, none⟩) (m + 1) cap) := by rw [hI.cell]; simp only [qcells, hv]; rfl
  have f7 := hI.free 7
  have hqx : qb ≠ xb := by have := h.lt; omega
  have RG := Lib.hid (hpr.at hx)
  have hown : W.ownsRow B 64 3 (.slice (some ⟨g, 0, none⟩) m cap) q.length (q.flatMap ic) := by
    have h1 := (hpr.below hbW)
    rw [hq] at h1
    rw [hm]
    exact h1.init.own hB
  have HI := Lib.hid (hI.setwv q _ hown)
  have HF := Lib.hid ((Fr.of_below (F := Foot qb d) hbW).trans (fr_set7 (F := Foot qb d) W qb 7 (.slice (some ⟨g, 0, none⟩) m cap) (.inl rfl)) (fun j hj => .inl hj))
  have HP2 := Lib.hid (show (W.setCell ⟨qb, 7, none⟩ (.slice (some ⟨g, 0, none⟩) m cap)).heap[xb]? = some (.cells (ica x) 64 (0, 0)) by rw [Below.heap_setCell _ _ _ _ (fun e => hqx e.symm)]; exact hbx)
  have HW := Lib.hid hW
  have HX := Lib.hid hxb
  have HG := Lib.hid hv
  have HBG := Lib.hid hB
  have hm6 : (m : Int) ≤ 1000000 := by omega
  have e1 : ((m + 1 : Nat) : Int) - 1 = (m : Int) := by omega
  have hmc : (m : Int) ≤ cap := by omega
  clear hW hxb hI hown hbx h hx hpr hv hlen hq hbW hB hm hl
  go_enter Try.func68, Try.ntmps68
  go_upto_region 3 with (first | (refine wpList_load_mid rfl 64 (.tmp 12) rfl g (m * 3) rfl (ic x) _ RG.out Try.underlying64 rfl size64 ?_) | ((refine wpList_store_row rfl 64 (.tmp 4) (.tmp 13) rfl _ (ica x) rfl rfl 64 _ (G.heap_new _ _) size64 rfl (ica_one x) ?_); rw [← HW.out, ← HX.out]))
  go_upto_region 4 with (fail)
  go_wp2_with (refine wpList_load_row rfl 64 (.tmp 4) rfl xb rfl 64 _ (0, 0) _ HP2.out Try.underlying64 rfl size64 ?_)
  go_ret
  refine ⟨rfl, _, HI.out, fun j hj => .inl ?_, HF.out⟩
  rcases hj with hj | hj | hj | hj
  · exact .inl hj
  · exact .inr (.inl hj)
  · exact .inr (.inr (.inl hj))
  · exact .inr (.inr (.inr (by rw [HG.out]; exact hj)))
set_option maxRecDepth 100000 in
set_option maxHeartbeats 4000000 in
theorem hpop_any (B qb : Nat) (s : St) (d : QD) (n : Nat) (hn : s.pile.length = n + 1) (w : World) (h : Inv B qb s d w) (hl : s.pile.length ≤ 1000000) :
    Calls Try.prog 29 #[.iface 67 (.pointer (some ⟨qb, 7, none⟩))] w fun e w' => ∃ q x, downL (swapL s.pile 0 n) n 0 = q ++ [x] ∧ e = .returned (.iface 64 (iv x)) ∧ Step B qb d w { s with pile := q } w' := by
  obtain ⟨g, cap, hv, hpr, hB⟩ := wv_form h (by omega)
  have hp0 := hp_of h hv hpr
  have m1 := m_len qb _ w hp0.cell
  obtain ⟨x0, hx0⟩ : ∃ x, s.pile[0]? = some x := ⟨_, List.getElem?_eq_getElem (by omega)⟩
  obtain ⟨x1, hx1⟩ : ∃ x, s.pile[n]? = some x := ⟨_, List.getElem?_eq_getElem (by omega)⟩
  have m2 := m_swap qb _ w hp0.cell
  have C2 := Lib.hid (pswap_any s.pile g cap 0 n x0 x1 hx0 hx1 w hpr)
  have HSW := Lib.hid (swapL_eq hx0 hx1)
  have HP0 := Lib.hid hp0
  have HV := Lib.hid hv
  have HI := Lib.hid h
  have HN := Lib.hid hn
  have e1 : ((s.pile.length : Nat) : Int) - 1 = (n : Int) := by omega
  clear hv hpr hp0 hx0 hx1 h hn
  go_enter Try.func29, Try.ntmps29
  go_upto_region 3 with (first | (go_at_call 58; refine (plen_any _ _ _ _).mono ?_; rintro e w9 ⟨rfl, hw9⟩; have hw8 := hw9.symm; clear hw9; subst hw8) | (go_at_call 60; refine C2.out.mono ?_; rintro e w1 ⟨rfl, hp1, hg1⟩))
  have H1 := Lib.hid (HP0.out.swap (by simp) hp1 hg1)
  clear m1 m2 hp1 hg1
  have hlen1 : (swapL s.pile 0 n).length = n + 1 := by rw [swapL_len, HN.out]
  have H1' : Hid (HP w qb (qcells s d) g cap (swapL s.pile 0 n) w1) := Lib.hid (by rw [HSW.out]; exact H1.out)
  have C3 := Lib.hid (down_any w qb g cap (qcells s d) (swapL s.pile 0 n) n (by omega) (by omega) w1 H1'.out)
  clear H1
  go_upto_region 4 with (go_at_call 38; refine C3.out.mono ?_; rintro e w2 ⟨⟨b, rfl⟩, hp2⟩)
  obtain ⟨k1, k2⟩ := HI.out.heap HV.out hp2 (by rw [downL_len, swapL_len]) hB
  obtain ⟨q, x, hq⟩ : ∃ q x, downL (swapL s.pile 0 n) n 0 = q ++ [x] := by
    have hl2 : (downL (swapL s.pile 0 n) n 0).length = n + 1 := by rw [downL_len, hlen1]
    refine ⟨(downL (swapL s.pile 0 n) n 0).dropLast, (downL (swapL s.pile 0 n) n 0).getLast (by intro h0; rw [h0] at hl2; simp at hl2), ?_⟩
    exact (List.dropLast_concat_getLast _).symm
  have m3 := m_pop qb w2
  have C4 := Lib.hid (ppop_any B qb { s with pile := downL (swapL s.pile 0 n) n 0 } d q x hq w2 k1 (by show (downL (swapL s.pile 0 n) n 0).length ≤ 1000000; rw [downL_len, swapL_len]; exact hl))
  have HQ := Lib.hid hq
  have HK := Lib.hid k2
  have HK1 := Lib.hid k1
  clear hq k2 k1 hp2 hlen1
  unfold iv at C4
  go_wp2_with (go_at_call 68; refine C4.out.mono ?_; rintro e w3 ⟨rfl, hst⟩)
  go_ret
  exact ⟨q, x, HQ.out, rfl, Step.from' HK.out hst⟩
end Go.Proofs.Ythmknlflgajnpaa
