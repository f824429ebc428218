/- The reference's disk: Play, kind 4. -/
import Derived.Test.YtdmjbdecemajpaaDf5
namespace Go.Proofs.Ytdmjbdecemajpaa.D
set_option linter.unusedVariables false
set_option linter.unusedSimpArgs false
open Go.RowKit
set_option maxRecDepth 100000 in
set_option maxHeartbeats 8000000 in
theorem play_rem (B rb : Nat) (s : RS) (v : Value) (x : Ac) (w : World) (h : RInv B rb s v w) (hl : s.fs.length ≤ 1000000) (hk : x.p.kind = 4) (hn : 1 ≤ x.p.no ∧ x.p.no ≤ 1000000) (k : Nat) (hkl : k < s.fs.length) (ha : atI s.fs x.p.no = k) (hsz : s.fs[k].safe.size + s.fs[k].tail.size ≤ 1048576) (hst : 0 ≤ s.steps ∧ s.steps ≤ 1000000000) :
    Calls Try.prog 14 #[.pointer (some ⟨rb, 0, none⟩), av x] w fun e w' => e = .returned (.int .i64 0) ∧ RStep B rb v w ⟨s.fs.take k ++ s.fs.drop (k + 1), s.steps + 1⟩ w' := by
  obtain ⟨⟨kind, no, n, t, picks⟩, PA, pc⟩ := x
  obtain ⟨W, hW⟩ : ∃ W, W = w.alloc (.cells #[.int .i64 kind, .int .i64 no, .int .i64 n, .string t, .slice PA picks.length pc] 28) := ⟨_, rfl⟩
  have hbW : Below w.heap.size w W := by rw [hW]; exact bel_allocT _ _
  have hI := h.below hbW
  have hxb : W.heap[w.heap.size]? = some (.cells #[.int .i64 kind, .int .i64 no, .int .i64 n, .string t, .slice PA picks.length pc] 28 (0, 0)) := by rw [hW]; exact G.heap_new _ _
  have hbb : ∀ V, Below W.heap.size W V → V.cell? ⟨w.heap.size, 0, none⟩ = some (.int .i64 kind) ∧ V.cell? ⟨w.heap.size, 1, none⟩ = some (.int .i64 no) ∧ V.cell? ⟨w.heap.size, 2, none⟩ = some (.int .i64 n) ∧ V.cell? ⟨w.heap.size, 3, none⟩ = some (.string t) := fun V hV => by
    have hlt := (Array.getElem?_eq_some_iff.1 hxb).1
    have := (hV.block _ hlt).trans hxb
    simp [World.cell?, this]
  have c0 := hI.c0
  have c1 := hI.c1
  have hlt := hI.lt
  have HI := Lib.hid hI
  have HBB := Lib.hid hbb
  have HBW := Lib.hid hbW
  have HW := Lib.hid hW
  rw [hW] at c0 c1 hlt
  have b0 := (hbb W (Below.refl _ _)).1
  have b1 := (hbb W (Below.refl _ _)).2.1
  rw [hW] at b0 b1
  replace hk : kind = 4 := hk
  subst hk
  have hn' : 1 ≤ no ∧ no ≤ 1000000 := hn
  have nl : ¬ no < 1 := by omega
  have nh : ¬ 1000000 < no := by omega
  have HAt := Lib.hid (at_any B rb s v no W hI hl)
  replace ha : atI s.fs no = k := ha
  rw [ha] at HAt
  obtain ⟨hn0, A, c, hv, hc⟩ := row3 (f := rfc) (fun _ => rfl) hI.row
  obtain ⟨g, hg, hcell⟩ := hc k hkl
  subst hg
  obtain ⟨m, hm⟩ : ∃ m, m = s.fs.length := ⟨_, rfl⟩
  obtain ⟨y, hy⟩ : ∃ y, y = s.fs[k] := ⟨_, rfl⟩
  have hkm : k < m := by omega
  rw [← hm] at hv hl
  rw [← hy] at hcell hsz
  have HM := Lib.hid hm
  have HVv := Lib.hid hv
  have HCell : Hid (∀ V, Below W.heap.size W V → V.cell? ⟨g, k * 3, none⟩ = some (.int .i64 y.no) ∧ V.cell? ⟨g, k * 3 + 1, none⟩ = some (.string y.safe) ∧ V.cell? ⟨g, k * 3 + 2, none⟩ = some (.string y.tail)) := Lib.hid (fun V hV => ⟨hcell V hV 0 (by decide), hcell V hV 1 (by decide), hcell V hV 2 (by decide)⟩)
  have hcat : ¬ 9223372036854775807 < y.safe.size + y.tail.size := by omega
  have hkk : ¬ (k : Int) < 0 := by omega
  have HST := Lib.hid hst
  have HY := Lib.hid hy
  have HKL := Lib.hid hkl
  have HH := Lib.hid h
  clear hbb hxb hI h hbW hW hn hn' ha hv hm hc hcell hy hst hn0
  unfold av
  go_enter Try.func14, Try.ntmps14
  go_upto_region 36 with (go_at_call 25; rw [← HW.out]; refine HAt.out.mono ?_; rintro e w1 ⟨rfl, hb1⟩)
  have d0 := (HBB.out w1 hb1).1
  have d2 := (HBB.out w1 hb1).2.2.1
  have r0 := G.cell_below hb1 HI.out.c0
  rw [HVv.out] at r0
  have e0 := (HCell.out w1 hb1).1
  have e1 := (HCell.out w1 hb1).2.1
  have e2 := (HCell.out w1 hb1).2.2
  have hlt1 : rb < w1.heap.size := Nat.lt_of_lt_of_le HI.out.lt hb1.size
  have hxl1 : w.heap.size < w1.heap.size := by
    have := hb1.size
    rw [HW.out] at this
    simp at this
    omega
  have Hb1 := Lib.hid hb1
  go_upto_region 54 with (fail)
  obtain ⟨w2, hw2⟩ : ∃ w2, w2 = w1.alloc (.cells #[.int .i64 y.no, .string y.safe, .string y.tail] 57) := ⟨_, rfl⟩
  have hb2 : Below W.heap.size W w2 := by rw [hw2]; exact Hb1.out.trans (belowLe Hb1.out.size (bel_allocT _ _))
  have hfb : w2.heap[w1.heap.size]? = some (.cells #[.int .i64 y.no, .string y.safe, .string y.tail] 57 (0, 0)) := by rw [hw2]; exact G.heap_new _ _
  have HC27 := Lib.hid (rstep_any B rb s v w2 (HI.out.below hb2) HST.out)
  have hnx : ¬ RFoot rb v w.heap.size := fun hf => by have := HH.out.foot_lt hf; omega
  have hnf : ¬ RFoot rb v w1.heap.size := fun hf => by have := (HI.out.below Hb1.out).foot_lt hf; omega
  rw [← hw2]
  have HB2 := Lib.hid hb2
  have HFB := Lib.hid hfb
  clear hw2 hb2 hfb d0 d2 r0 e0 e1 e2 hlt1 hxl1
  go_upto_region 56 with (go_at_call 27; refine HC27.out.mono ?_; rintro e w5 ⟨rfl, hs5⟩)
  obtain ⟨v5, i5, j5, f5⟩ := hs5
  have HX5 : Hid (∀ V, Below w5.heap.size w5 V → V.cell? ⟨w.heap.size, 0, none⟩ = some (.int .i64 4) ∧ V.cell? ⟨w.heap.size, 2, none⟩ = some (.int .i64 n)) := Lib.hid (fun V hV =>
    ⟨G.cell_below hV (cell_fr f5 hnx (HBB.out w2 HB2.out).1), G.cell_below hV (cell_fr f5 hnx (HBB.out w2 HB2.out).2.2.1)⟩)
  have HY5 : Hid (∀ V, Below w5.heap.size w5 V → V.cell? ⟨w1.heap.size, 0, none⟩ = some (.int .i64 y.no) ∧ V.cell? ⟨w1.heap.size, 1, none⟩ = some (.string y.safe) ∧ V.cell? ⟨w1.heap.size, 2, none⟩ = some (.string y.tail)) := Lib.hid (fun V hV =>
    ⟨G.cell_below hV (cell_fr f5 hnf (by simp [World.cell?, HFB.out])), G.cell_below hV (cell_fr f5 hnf (by simp [World.cell?, HFB.out])), G.cell_below hV (cell_fr f5 hnf (by simp [World.cell?, HFB.out]))⟩)
  obtain ⟨_, A5, c5, hv5, hc5⟩ := row3 (f := rfc) (fun _ => rfl) i5.row
  obtain ⟨g5, hg5, hcell5⟩ := hc5 k HKL.out
  subst hg5
  replace hv5 : v5 = .slice (some ⟨g5, 0, none⟩) s.fs.length c5 := hv5
  rw [← HM.out] at hv5
  have HV5 := Lib.hid hv5
  have HI5 := Lib.hid i5
  have HJ5 := Lib.hid j5
  have HF5 := Lib.hid f5
  have x0 := (HX5.out w5 (Below.refl _ _)).1
  have hlt5 := i5.lt
  clear hv5 hc5 hcell5 i5 j5 f5 hnx hnf
  have ho5 : w5.ownsRow B 57 3 v5 s.fs.length (s.fs.flatMap rfc) := HI5.out.row
  rw [HV5.out, ← HM.out] at ho5
  obtain ⟨hNc, hcm, hcell5⟩ := owns_cells ho5
  unfold maxLen at hcm
  have HRow := Lib.hid hcell5
  obtain ⟨ad, hsl2, had⟩ := slice37_from g5 m c5 (k + 1) (by omega) hNc
  have hsl1 := slice37_to (some ⟨g5, 0, none⟩) m c5 k (by omega)
  simp only [Int.natCast_add, Int.cast_ofNat_Int] at hsl2
  have HAD := Lib.hid had
  obtain ⟨W4, hW4⟩ : ∃ W4, W4 = w5.alloc (.cells #[] 57) := ⟨_, rfl⟩
  have hb4 : Below w5.heap.size w5 W4 := by rw [hW4]; exact bel_allocT _ _
  have ho4 : W4.ownsRow w5.heap.size 57 3 (.slice (some ⟨w5.heap.size, 0, none⟩) 0 0) 0 [] := by
    rw [hW4]; exact ⟨rfl, .inr ⟨w5.heap.size, 0, #[], rfl, Nat.le_refl _, G.heap_new _ _, Nat.le_refl _, by decide, rfl, rfl⟩⟩
  have HB4 := Lib.hid hb4
  have HO4 := Lib.hid ho4
  have HN1 : Hid (∀ j u, ((s.fs.take k).flatMap rfc)[j]? = some u → W4.cell? ((⟨g5, 0, none⟩ : Addr).add j) = some u) := Lib.hid (fun j u h => by
    rw [G.add_plain, Nat.zero_add]
    exact G.cell_below HB4.out (HRow.out j u (rf_take _ _ _ _ h)))
  have HL1 : Hid (((s.fs.take k).flatMap rfc).length = k * 3) := Lib.hid (by rw [rfs_len, List.length_take]; have := HKL.out; omega)
  have HN2 : Hid (∀ V, Below w5.heap.size w5 V → ∀ j u, ((s.fs.drop (k + 1)).flatMap rfc)[j]? = some u → V.cell? (ad.add j) = some u) := Lib.hid (fun V hV j u h => by
    have hlt : k + 1 < m := by
      rcases Nat.lt_or_ge (k + 1) m with h1 | h1
      · exact h1
      · rw [List.drop_eq_nil_of_le (by have := HM.out; omega)] at h; simp at h
    rw [HAD.out hlt, G.add_plain]
    exact G.cell_below hV (HRow.out _ u (rf_drop _ _ _ _ (by have := HKL.out; omega) h)))
  have HL2 : Hid (((s.fs.drop (k + 1)).flatMap rfc).length = (m - (k + 1)) * 3) := Lib.hid (by rw [rfs_len, List.length_drop]; have := HM.out; omega)
  have h4s : w5.heap.size ≤ W4.heap.size := hb4.size
  have HW4 := Lib.hid hW4
  clear hb4 ho4 hW4 had ho5 hcell5
  go_upto_region 66 with (fail)
  rw [← HW4.out]
  have d4 := G.cell_below HB4.out HI5.out.c0
  rw [HV5.out] at d4
  have hl4 : rb < W4.heap.size := Nat.lt_of_lt_of_le hlt5 h4s
  clear x0
  go_upto_region 67 with (at_builtin; refine app_row rfl (.tmp 293) (.tmp 299) 37 57 rfl w5.heap.size 3 40 _ Try.underlying37 info57 rfl (by decide) (.slice (some ⟨w5.heap.size, 0, none⟩) 0 0) 0 [] rfl HO4.out ⟨g5, 0, none⟩ k c5 ((s.fs.take k).flatMap rfc) rfl HL1.out HN1.out (rfs_all _) (by unfold maxLen; omega) (by omega) h4s ?_; intro v6 w6 hown6 hg6 hz6)
  have hbw6 := G.below_grown HB4.out h4s HO4.out hg6
  rw [Nat.zero_add, List.nil_append] at hown6
  obtain ⟨A6, c6, rfl⟩ := owns_shape hown6
  have HO6 := Lib.hid hown6
  have HB6 := Lib.hid hbw6
  have h6s : w5.heap.size ≤ w6.heap.size := hbw6.size
  have d6 := G.cell_below hbw6 HI5.out.c0
  rw [HV5.out] at d6
  have hl6 : rb < w6.heap.size := Nat.lt_of_lt_of_le hlt5 h6s
  clear hown6 hg6 hz6 hbw6 d4 hl4
  go_wp2_with (at_builtin; refine app_row rfl (.tmp 302) (.tmp 309) 37 57 rfl w5.heap.size 3 40 _ Try.underlying37 info57 rfl (by decide) (.slice A6 k c6) k ((s.fs.take k).flatMap rfc) rfl HO6.out ad (m - (k + 1)) (c5 - (k + 1)) ((s.fs.drop (k + 1)).flatMap rfc) rfl HL2.out (HN2.out w6 HB6.out) (rfs_all _) (by unfold maxLen; omega) (by omega) h6s ?_; intro v7 w7 hown7 hg7 hz7; have hbw7 := G.below_grown HB6.out h6s HO6.out hg7; obtain ⟨A7, c7, rfl⟩ := owns_shape hown7; have HO7 := Lib.hid hown7; have HB7 := Lib.hid hbw7; have d7' := G.cell_below hbw7 HI5.out.c0; rw [HV5.out] at d7'; have f7' := (HI5.out.below hbw7).free 0; have hrl7 : rb < w7.heap.size := Nat.lt_of_lt_of_le hlt5 hbw7.size; clear hown7 hg7 hz7 hbw7)
  go_ret
  refine ⟨rfl, RStep.from' (Fr.of_below HBW.out) (RStep.from' (Fr.of_below HB2.out) (RStep.cat HJ5.out HF5.out (HI5.out.set _ _ (k + (m - (k + 1))) HB7.out ?_ ?_)))⟩
  · rw [List.flatMap_append]; exact HO7.out
  · rw [List.length_append, List.length_take, List.length_drop]
    have := HM.out
    have := HKL.out
    omega
end Go.Proofs.Ytdmjbdecemajpaa.D
