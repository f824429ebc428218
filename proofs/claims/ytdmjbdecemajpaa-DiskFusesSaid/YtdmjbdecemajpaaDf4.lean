/- The reference's disk: Play, kind 1, a new file. -/
import Derived.Test.YtdmjbdecemajpaaDf3
namespace Go.Proofs.Ytdmjbdecemajpaa.D
set_option linter.unusedVariables false
set_option linter.unusedSimpArgs false
open Go.RowKit
theorem ins_at {l : List RF} {f : RF} {i : Nat} (h : IsIns l f.no i) : ∃ hi : i < (l.take i ++ f :: l.drop i).length, (l.take i ++ f :: l.drop i)[i] = f ∧ atI (l.take i ++ f :: l.drop i) f.no = i := by
  have hle := h.le
  have htl : (l.take i).length = i := by rw [List.length_take]; omega
  have hi : i < (l.take i ++ f :: l.drop i).length := by rw [List.length_append, List.length_cons, htl]; omega
  have hf : (l.take i ++ f :: l.drop i)[i] = f := by
    rw [List.getElem_append_right (by omega)]
    simp [htl]
  refine ⟨hi, hf, at_at _ _ i hi (fun j hj hji e => ?_) (by rw [hf])⟩
  rw [List.getElem_append_left (by omega), List.getElem_take] at e
  have := h.lo j (by omega) hji
  omega
theorem set_ins {l : List RF} {f f' : RF} {i : Nat} (h : i ≤ l.length) : (l.take i ++ f :: l.drop i).set i f' = l.take i ++ f' :: l.drop i := by
  have htl : (l.take i).length = i := by rw [List.length_take]; omega
  rw [List.set_append_right _ _ (by omega), htl, Nat.sub_self, List.set_cons_zero]
theorem nil_cat (t : ByteArray) : (⟨#[]⟩ : ByteArray) ++ t = t := by
  apply ByteArray.ext
  simp
set_option maxRecDepth 100000 in
set_option maxHeartbeats 8000000 in
theorem play_new (B rb : Nat) (s : RS) (v : Value) (x : Ac) (w : World) (h : RInv B rb s v w) (hl : s.fs.length ≤ 1000000) (hk : x.p.kind = 1) (hn : 1 ≤ x.p.no ∧ x.p.no ≤ 1000000) (hts : x.p.s.size ≤ 300) (ha : atI s.fs x.p.no = -1) (hf : s.fs.length < 110) (hst : 0 ≤ s.steps ∧ s.steps ≤ 1000000000) :
    Calls Try.prog 14 #[.pointer (some ⟨rb, 0, none⟩), av x] w fun e w' => e = .returned (.int .i64 0) ∧ ∃ i, IsIns s.fs x.p.no i ∧ RStep B rb v w ⟨s.fs.take i ++ ⟨x.p.no, ⟨#[]⟩, x.p.s⟩ :: s.fs.drop i, s.steps + 1⟩ w' := by
  obtain ⟨⟨kind, no, n, t, picks⟩, PA, pc⟩ := x
  obtain ⟨W, hW⟩ : ∃ W, W = w.alloc (.cells #[.int .i64 kind, .int .i64 no, .int .i64 n, .string t, .slice PA picks.length pc] 28) := ⟨_, rfl⟩
  have hbW : Below w.heap.size w W := by rw [hW]; exact bel_allocT _ _
  have hI := h.below hbW
  have hxb : W.heap[w.heap.size]? = some (.cells #[.int .i64 kind, .int .i64 no, .int .i64 n, .string t, .slice PA picks.length pc] 28 (0, 0)) := by rw [hW]; exact G.heap_new _ _
  have hbb : ∀ V, Below W.heap.size W V → V.cell? ⟨w.heap.size, 0, none⟩ = some (.int .i64 kind) ∧ V.cell? ⟨w.heap.size, 1, none⟩ = some (.int .i64 no) ∧ V.cell? ⟨w.heap.size, 2, none⟩ = some (.int .i64 n) ∧ V.cell? ⟨w.heap.size, 3, none⟩ = some (.string t) := fun V hV => by
    have hlt := (Array.getElem?_eq_some_iff.1 hxb).1
    have := (hV.block _ hlt).trans hxb
    simp [World.cell?, this]
  have c0 := hI.c0
  have c1 := hI.c1
  have hlt := hI.lt
  have HI := Lib.hid hI
  have HBB := Lib.hid hbb
  have HBW := Lib.hid hbW
  have HW := Lib.hid hW
  rw [hW] at c0 c1 hlt
  have b0 := (hbb W (Below.refl _ _)).1
  have b1 := (hbb W (Below.refl _ _)).2.1
  rw [hW] at b0 b1
  replace hk : kind = 1 := hk
  subst hk
  have hn' : 1 ≤ no ∧ no ≤ 1000000 := hn
  have hts' : t.size ≤ 300 := hts
  have nl : ¬ no < 1 := by omega
  have nh : ¬ 1000000 < no := by omega
  have HAt := Lib.hid (at_any B rb s v no W hI hl)
  replace ha : atI s.fs no = -1 := ha
  rw [ha] at HAt
  obtain ⟨A, c, hv⟩ := owns_shape hI.row
  obtain ⟨m, hm⟩ : ∃ m, m = s.fs.length := ⟨_, rfl⟩
  rw [← hm] at hv hf
  have hfi : ¬ (110 : Int) ≤ m := by omega
  have hfi' : m < 110 := hf
  have HVv := Lib.hid hv
  have HM0 := Lib.hid hm
  have HL := Lib.hid hl
  have HST := Lib.hid hst
  have HH := Lib.hid h
  clear hbb hxb hI h hbW hW hn hn' ha hts hv hm hf hl hst
  unfold av
  go_enter Try.func14, Try.ntmps14
  go_upto_region 36 with (go_at_call 25; rw [← HW.out]; refine HAt.out.mono ?_; rintro e w1 ⟨rfl, hb1⟩)
  have d0 := (HBB.out w1 hb1).1
  have d1 := (HBB.out w1 hb1).2.1
  have d3 := (HBB.out w1 hb1).2.2.2
  have r0 := G.cell_below hb1 HI.out.c0
  rw [HVv.out] at r0
  have hlt1 : rb < w1.heap.size := Nat.lt_of_lt_of_le HI.out.lt hb1.size
  have Hb1 := Lib.hid hb1
  go_wp2
  go_quiet (fail)
  go_upto_region 44 with (fail)
  generalize hz : w1.drewN nq = wa
  have hBa : Below W.heap.size W wa := by rw [← hz]; exact G.bdrewN Hb1.out _
  clear hz d0 d1 d3 r0 hlt1
  have a1 := (HBB.out wa hBa).2.1
  have hlta : rb < wa.heap.size := Nat.lt_of_lt_of_le HI.out.lt hBa.size
  have HBa := Lib.hid hBa
  have HPut := Lib.hid (put_any B rb s v ⟨no, ⟨#[]⟩, ⟨#[]⟩⟩ wa (HI.out.below hBa) HL.out)
  clear hBa
  go_upto_region 45 with (go_at_call 26; refine HPut.out.mono ?_; rintro e w2 ⟨rfl, i, hins, hst2⟩)
  have HIns := Lib.hid hins
  obtain ⟨v2, i2, j2, f2⟩ := hst2
  obtain ⟨hi2, y2, at2⟩ := ins_at (f := ⟨no, ⟨#[]⟩, ⟨#[]⟩⟩) hins
  obtain ⟨s2, hs2⟩ : ∃ s2 : RS, s2 = ⟨s.fs.take i ++ ⟨no, ⟨#[]⟩, ⟨#[]⟩⟩ :: s.fs.drop i, s.steps⟩ := ⟨_, rfl⟩
  have hl2 : s2.fs.length ≤ 1000000 := by
    rw [hs2]
    show (s.fs.take i ++ _ :: s.fs.drop i).length ≤ _
    rw [List.length_append, List.length_cons, List.length_take, List.length_drop]
    have := hins.le; have := HM0.out
    omega
  have hi2' : i < s2.fs.length := by rw [hs2]; exact hi2
  have y2' : s2.fs[i] = ⟨no, ⟨#[]⟩, ⟨#[]⟩⟩ := by simp only [hs2]; exact y2
  have at2' : atI s2.fs no = i := by rw [hs2]; exact at2
  have hst3 : 0 ≤ s2.steps ∧ s2.steps ≤ 1000000000 := by rw [hs2]; exact HST.out
  rw [← hs2] at i2
  have HS2 := Lib.hid hs2
  have hnf : ¬ RFoot rb v w.heap.size := fun hf => by
    have := HH.out.foot_lt hf
    omega
  have HBB2 : Hid (∀ V, Below w2.heap.size w2 V → V.cell? ⟨w.heap.size, 1, none⟩ = some (.int .i64 no) ∧ V.cell? ⟨w.heap.size, 3, none⟩ = some (.string t)) := Lib.hid (fun V hV =>
    ⟨G.cell_below hV (cell_fr f2 hnf (HBB.out wa HBa.out).2.1), G.cell_below hV (cell_fr f2 hnf (HBB.out wa HBa.out).2.2.2)⟩)
  obtain ⟨hn0, A2, c2, hv2, hc2⟩ := row3 (f := rfc) (fun _ => rfl) i2.row
  obtain ⟨g, hg, hcell⟩ := hc2 i hi2'
  subst hg
  obtain ⟨m2, hm2⟩ : ∃ m2, m2 = s2.fs.length := ⟨_, rfl⟩
  obtain ⟨y, hy⟩ : ∃ y, y = s2.fs[i] := ⟨_, rfl⟩
  have hkm : i < m2 := by omega
  have HSet := Lib.hid (set_tail s2.fs i hi2' (y.tail ++ t))
  rw [← hm2] at hv2
  rw [← hy] at hcell HSet y2'
  have hS2 : y.tail.size = 0 := by rw [y2']; rfl
  have hcat : ¬ 9223372036854775807 < y.tail.size + t.size := by omega
  have HM2 := Lib.hid hm2
  have HV2 := Lib.hid hv2
  have HCell2 : Hid (∀ V, Below w2.heap.size w2 V → V.cell? ⟨g, i * 3 + 1, none⟩ = some (.string y.safe) ∧ V.cell? ⟨g, i * 3 + 2, none⟩ = some (.string y.tail)) := Lib.hid (fun V hV => ⟨hcell V hV 1 (by decide), hcell V hV 2 (by decide)⟩)
  have HI2 := Lib.hid i2
  have HJ2 := Lib.hid j2
  have HF2 := Lib.hid f2
  have HY := Lib.hid y2'
  have hA2 := at_any B rb s2 v2 no w2 i2 hl2
  rw [at2'] at hA2
  have HA2 := Lib.hid hA2
  have a2 := (HBB2.out w2 (Below.refl _ _)).1
  have hlm2 : m2 ≤ 1000000 := by omega
  have HST2 := Lib.hid hst3
  clear a1 hlta hins hi2 y2 at2 hs2 hl2 at2' i2 j2 f2 hnf hn0 hc2 hcell hv2 hm2 hy y2' hS2 hA2 hst3 hi2'
  go_upto_region 46 with (go_at_call 25; refine HA2.out.mono ?_; rintro e w3 ⟨rfl, hB3⟩)
  clear a2
  have q0 := G.cell_below hB3 HI2.out.c0
  rw [HV2.out] at q0
  have q2 := (HCell2.out w3 hB3).2
  have q3 := (HBB2.out w3 hB3).2
  have hlt3 : rb < w3.heap.size := Nat.lt_of_lt_of_le HI2.out.lt hB3.size
  have HB3 := Lib.hid hB3
  clear hB3
  go_still_tail 18, (by kernel_rfl)
  change wpList _ _ _ _ _ w3.drew
  have hB4 : Below w2.heap.size w2 w3.drew := G.bdrewN HB3.out 1
  generalize w3.drew = w4 at *
  clear q0 q2 q3 hlt3
  have z2 := (HCell2.out w4 hB4).2
  have ho4 := (HI2.out.below hB4).row
  rw [HV2.out, ← HM2.out] at ho4
  have zf := ho4.frozenAt (i * 3 + 2)
  obtain ⟨st1, st2⟩ := ho4.stored (i * 3 + 2) (.string (y.tail ++ t))
  have hP : RStep B rb v2 w2 ⟨s2.fs.set i ⟨y.no, y.safe, y.tail ++ t⟩, s2.steps⟩ (w4.setCell ⟨g, i * 3 + 2, none⟩ (.string (y.tail ++ t))) := by
    refine RStep.from' (Fr.of_below hB4) ((HI2.out.below hB4).poke _ ?_ ?_ (by simp))
    · rw [HV2.out]; exact st2
    · rw [HV2.out, HSet.out, ← HM2.out]; exact st1
  generalize hw5 : w4.setCell ⟨g, i * 3 + 2, none⟩ (.string (y.tail ++ t)) = w5 at hP
  obtain ⟨v5, i5, j5, f5⟩ := hP
  have HP := Lib.hid (show RStep B rb v2 w2 ⟨s2.fs.set i ⟨y.no, y.safe, y.tail ++ t⟩, s2.steps⟩ w5 from ⟨v5, i5, j5, f5⟩)
  have HC27 := Lib.hid (rstep_any B rb _ v5 w5 i5 HST2.out)
  have HI5 := Lib.hid i5
  have HJ5 := Lib.hid j5
  have HF5 := Lib.hid f5
  clear st1 st2 ho4 i5 j5 f5
  go_wp2_with (go_at_call 27; refine HC27.out.mono ?_; rintro e w6 ⟨rfl, hs6⟩)
  go_ret
  obtain ⟨v7, i7, j7, f7⟩ := hs6
  refine ⟨rfl, i, HIns.out, RStep.from' (Fr.of_below HBW.out) (RStep.from' (Fr.of_below HBa.out) ?_)⟩
  have e1 : (⟨s.fs.take i ++ ⟨no, ⟨#[]⟩, t⟩ :: s.fs.drop i, s.steps + 1⟩ : RS) = ⟨s2.fs.set i ⟨y.no, y.safe, y.tail ++ t⟩, s2.steps + 1⟩ := by
    rw [HY.out, HS2.out]
    show _ = (⟨(s.fs.take i ++ _ :: s.fs.drop i).set i _, _⟩ : RS)
    rw [set_ins HIns.out.le]
    show _ = (⟨s.fs.take i ++ ⟨no, ⟨#[]⟩, ⟨#[]⟩ ++ t⟩ :: s.fs.drop i, _⟩ : RS)
    rw [nil_cat]
  show RStep B rb v wa ⟨s.fs.take i ++ ⟨no, ⟨#[]⟩, t⟩ :: s.fs.drop i, s.steps + 1⟩ w6
  rw [e1]
  refine ⟨v7, i7, fun j hj => ?_, HF2.out.trans (HF5.out.trans f7 HJ5.out) HJ2.out⟩
  have hsz : wa.heap.size ≤ w2.heap.size := HF2.out.size
  rcases j7 j hj with h4 | h4
  · rcases HJ5.out j h4 with h5 | h5
    · exact HJ2.out j h5
    · exact .inr (by omega)
  · exact .inr (Nat.le_trans hsz (Nat.le_trans HF5.out.size h4))
end Go.Proofs.Ytdmjbdecemajpaa.D
