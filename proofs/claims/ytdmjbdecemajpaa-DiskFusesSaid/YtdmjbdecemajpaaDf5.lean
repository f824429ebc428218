/- The reference's disk: Play, kinds 2, 3, 4. -/
import Derived.Test.YtdmjbdecemajpaaDf4
namespace Go.Proofs.Ytdmjbdecemajpaa.D
set_option linter.unusedVariables false
set_option linter.unusedSimpArgs false
open Go.RowKit
theorem set_all : ∀ (l : List RF) (k : Nat) (hk : k < l.length) (f : RF), (l.set k f).flatMap rfc = (((l.flatMap rfc).set (k * 3) (.int .i64 f.no)).set (k * 3 + 1) (.string f.safe)).set (k * 3 + 2) (.string f.tail)
  | x :: l, 0, _, f => rfl
  | x :: l, k + 1, hk, f => by
    have := set_all l k (by simpa using hk) f
    rw [List.set_cons_succ, List.flatMap_cons, List.flatMap_cons, this]
    have e0 : (k + 1) * 3 = (rfc x).length + k * 3 := by simp [rfc]; omega
    have e1 : (k + 1) * 3 + 1 = (rfc x).length + (k * 3 + 1) := by simp [rfc]; omega
    have e2 : (k + 1) * 3 + 2 = (rfc x).length + (k * 3 + 2) := by simp [rfc]; omega
    rw [e2, e1, e0, List.set_append_right _ _ (by omega), List.set_append_right _ _ (by omega), List.set_append_right _ _ (by omega)]
    simp only [Nat.add_sub_cancel_left]
theorem RStep.cat {B rb : Nat} {s2 : RS} {v v1 : Value} {w w1 w2 : World} (hj : ∀ j, RFoot rb v1 j → RFoot rb v j ∨ w.heap.size ≤ j) (hf : Fr (RFoot rb v) w w1) (h : RStep B rb v1 w1 s2 w2) : RStep B rb v w s2 w2 := by
  obtain ⟨v2, k1, k2, k3⟩ := h
  refine ⟨v2, k1, fun j hj2 => ?_, hf.trans k3 hj⟩
  rcases k2 j hj2 with h4 | h4
  · exact hj j h4
  · exact .inr (Nat.le_trans hf.size h4)
theorem slice_mid (s : ByteArray) (a b : Nat) (h1 : a ≤ b) (h2 : b ≤ s.size) (W : World) : (Instr.slice 9 (.string s) (some (.int .i64 a)) (some (.int .i64 b)) none).run Try.prog W = .ok (.string (s.extract a b)) W := by
  have g1 : (a : Int) ≤ b := by omega
  have g2 : (b : Int) ≤ s.size := by omega
  simp [Instr.slice, Instr.sliceBounds, Instr.sliceBound, asIntOf, go_sem, g1, g2]
  rw [if_pos h2, if_pos h1]
/-- a file is stored in its place -/
theorem RInv.store {B rb g c : Nat} {s : RS} {v : Value} {w : World} (h : RInv B rb s v w) (hv : v = .slice (some ⟨g, 0, none⟩) s.fs.length c) (k : Nat) (hk : k < s.fs.length) (f : RF) :
    RStep B rb v w ⟨s.fs.set k f, s.steps⟩ (w.setCells g (k * 3) [.int .i64 f.no, .string f.safe, .string f.tail]) ∧ w.there g (k * 3) 3 := by
  have ho := h.row
  rw [hv] at ho
  obtain ⟨a1, a2⟩ := ho.stored (k * 3) (.int .i64 f.no)
  obtain ⟨b1, b2⟩ := a1.stored (k * 3 + 1) (.string f.safe)
  obtain ⟨d1, d2⟩ := b1.stored (k * 3 + 2) (.string f.tail)
  refine ⟨h.poke _ ?_ ?_ (by simp), fun j hj => ?_⟩
  · rw [hv]
    exact (a2.trans b2).trans d2
  · rw [hv, set_all _ _ hk]
    exact d1
  · have hjl : k * 3 + j < s.fs.length * 3 := by omega
    refine ⟨?_, ho.frozenAt _⟩
    rw [ho.cellAt _ hjl, List.getElem?_eq_getElem (by rw [rfs_len]; exact hjl)]
    rfl
set_option maxRecDepth 100000 in
set_option maxHeartbeats 8000000 in
theorem play_syn (B rb : Nat) (s : RS) (v : Value) (x : Ac) (w : World) (h : RInv B rb s v w) (hl : s.fs.length ≤ 1000000) (hk : x.p.kind = 2) (hn : 1 ≤ x.p.no ∧ x.p.no ≤ 1000000) (k : Nat) (hkl : k < s.fs.length) (ha : atI s.fs x.p.no = k) (hsz : s.fs[k].safe.size + s.fs[k].tail.size ≤ 1048576) (hst : 0 ≤ s.steps ∧ s.steps ≤ 1000000000) :
    Calls Try.prog 14 #[.pointer (some ⟨rb, 0, none⟩), av x] w fun e w' => e = .returned (.int .i64 0) ∧ RStep B rb v w ⟨s.fs.set k ⟨s.fs[k].no, s.fs[k].safe ++ s.fs[k].tail, ⟨#[]⟩⟩, s.steps + 1⟩ w' := by
  obtain ⟨⟨kind, no, n, t, picks⟩, PA, pc⟩ := x
  obtain ⟨W, hW⟩ : ∃ W, W = w.alloc (.cells #[.int .i64 kind, .int .i64 no, .int .i64 n, .string t, .slice PA picks.length pc] 28) := ⟨_, rfl⟩
  have hbW : Below w.heap.size w W := by rw [hW]; exact bel_allocT _ _
  have hI := h.below hbW
  have hxb : W.heap[w.heap.size]? = some (.cells #[.int .i64 kind, .int .i64 no, .int .i64 n, .string t, .slice PA picks.length pc] 28 (0, 0)) := by rw [hW]; exact G.heap_new _ _
  have hbb : ∀ V, Below W.heap.size W V → V.cell? ⟨w.heap.size, 0, none⟩ = some (.int .i64 kind) ∧ V.cell? ⟨w.heap.size, 1, none⟩ = some (.int .i64 no) ∧ V.cell? ⟨w.heap.size, 2, none⟩ = some (.int .i64 n) ∧ V.cell? ⟨w.heap.size, 3, none⟩ = some (.string t) := fun V hV => by
    have hlt := (Array.getElem?_eq_some_iff.1 hxb).1
    have := (hV.block _ hlt).trans hxb
    simp [World.cell?, this]
  have c0 := hI.c0
  have c1 := hI.c1
  have hlt := hI.lt
  have HI := Lib.hid hI
  have HBB := Lib.hid hbb
  have HBW := Lib.hid hbW
  have HW := Lib.hid hW
  rw [hW] at c0 c1 hlt
  have b0 := (hbb W (Below.refl _ _)).1
  have b1 := (hbb W (Below.refl _ _)).2.1
  rw [hW] at b0 b1
  replace hk : kind = 2 := hk
  subst hk
  have hn' : 1 ≤ no ∧ no ≤ 1000000 := hn
  have nl : ¬ no < 1 := by omega
  have nh : ¬ 1000000 < no := by omega
  have HAt := Lib.hid (at_any B rb s v no W hI hl)
  replace ha : atI s.fs no = k := ha
  rw [ha] at HAt
  obtain ⟨hn0, A, c, hv, hc⟩ := row3 (f := rfc) (fun _ => rfl) hI.row
  obtain ⟨g, hg, hcell⟩ := hc k hkl
  subst hg
  obtain ⟨m, hm⟩ : ∃ m, m = s.fs.length := ⟨_, rfl⟩
  obtain ⟨y, hy⟩ : ∃ y, y = s.fs[k] := ⟨_, rfl⟩
  have hkm : k < m := by omega
  rw [← hm] at hv hl
  rw [← hy] at hcell hsz ⊢
  have HM := Lib.hid hm
  have HVv := Lib.hid hv
  have HCell : Hid (∀ V, Below W.heap.size W V → V.cell? ⟨g, k * 3, none⟩ = some (.int .i64 y.no) ∧ V.cell? ⟨g, k * 3 + 1, none⟩ = some (.string y.safe) ∧ V.cell? ⟨g, k * 3 + 2, none⟩ = some (.string y.tail)) := Lib.hid (fun V hV => ⟨hcell V hV 0 (by decide), hcell V hV 1 (by decide), hcell V hV 2 (by decide)⟩)
  have hcat : ¬ 9223372036854775807 < y.safe.size + y.tail.size := by omega
  have hkk : ¬ (k : Int) < 0 := by omega
  have HST := Lib.hid hst
  have HY := Lib.hid hy
  have HKL := Lib.hid hkl
  have HH := Lib.hid h
  clear hbb hxb hI h hbW hW hn hn' ha hv hm hc hcell hy hst hn0
  unfold av
  go_enter Try.func14, Try.ntmps14
  go_upto_region 36 with (go_at_call 25; rw [← HW.out]; refine HAt.out.mono ?_; rintro e w1 ⟨rfl, hb1⟩)
  have d0 := (HBB.out w1 hb1).1
  have d2 := (HBB.out w1 hb1).2.2.1
  have r0 := G.cell_below hb1 HI.out.c0
  rw [HVv.out] at r0
  have e0 := (HCell.out w1 hb1).1
  have e1 := (HCell.out w1 hb1).2.1
  have e2 := (HCell.out w1 hb1).2.2
  have hlt1 : rb < w1.heap.size := Nat.lt_of_lt_of_le HI.out.lt hb1.size
  have hxl1 : w.heap.size < w1.heap.size := by
    have := hb1.size
    rw [HW.out] at this
    simp at this
    omega
  have Hb1 := Lib.hid hb1
  go_upto_region 54 with (fail)
  obtain ⟨w2, hw2⟩ : ∃ w2, w2 = w1.alloc (.cells #[.int .i64 y.no, .string y.safe, .string y.tail] 57) := ⟨_, rfl⟩
  have hb2 : Below W.heap.size W w2 := by rw [hw2]; exact Hb1.out.trans (belowLe Hb1.out.size (bel_allocT _ _))
  have hfb : w2.heap[w1.heap.size]? = some (.cells #[.int .i64 y.no, .string y.safe, .string y.tail] 57 (0, 0)) := by rw [hw2]; exact G.heap_new _ _
  have HC27 := Lib.hid (rstep_any B rb s v w2 (HI.out.below hb2) HST.out)
  have hnx : ¬ RFoot rb v w.heap.size := fun hf => by have := HH.out.foot_lt hf; omega
  have hnf : ¬ RFoot rb v w1.heap.size := fun hf => by have := (HI.out.below Hb1.out).foot_lt hf; omega
  rw [← hw2]
  have HB2 := Lib.hid hb2
  have HFB := Lib.hid hfb
  clear hw2 hb2 hfb d0 d2 r0 e0 e1 e2 hlt1 hxl1
  go_upto_region 56 with (go_at_call 27; refine HC27.out.mono ?_; rintro e w5 ⟨rfl, hs5⟩)
  obtain ⟨v5, i5, j5, f5⟩ := hs5
  have HX5 : Hid (∀ V, Below w5.heap.size w5 V → V.cell? ⟨w.heap.size, 0, none⟩ = some (.int .i64 2) ∧ V.cell? ⟨w.heap.size, 2, none⟩ = some (.int .i64 n)) := Lib.hid (fun V hV =>
    ⟨G.cell_below hV (cell_fr f5 hnx (HBB.out w2 HB2.out).1), G.cell_below hV (cell_fr f5 hnx (HBB.out w2 HB2.out).2.2.1)⟩)
  have HY5 : Hid (∀ V, Below w5.heap.size w5 V → V.cell? ⟨w1.heap.size, 0, none⟩ = some (.int .i64 y.no) ∧ V.cell? ⟨w1.heap.size, 1, none⟩ = some (.string y.safe) ∧ V.cell? ⟨w1.heap.size, 2, none⟩ = some (.string y.tail)) := Lib.hid (fun V hV =>
    ⟨G.cell_below hV (cell_fr f5 hnf (by simp [World.cell?, HFB.out])), G.cell_below hV (cell_fr f5 hnf (by simp [World.cell?, HFB.out])), G.cell_below hV (cell_fr f5 hnf (by simp [World.cell?, HFB.out]))⟩)
  obtain ⟨_, A5, c5, hv5, hc5⟩ := row3 (f := rfc) (fun _ => rfl) i5.row
  obtain ⟨g5, hg5, hcell5⟩ := hc5 k HKL.out
  subst hg5
  replace hv5 : v5 = .slice (some ⟨g5, 0, none⟩) s.fs.length c5 := hv5
  rw [← HM.out] at hv5
  have HV5 := Lib.hid hv5
  have HI5 := Lib.hid i5
  have HJ5 := Lib.hid j5
  have HF5 := Lib.hid f5
  have x0 := (HX5.out w5 (Below.refl _ _)).1
  have hlt5 := i5.lt
  clear hv5 hc5 hcell5 i5 j5 f5 hnx hnf
  go_upto_region 58 with (fail)
  have r5 := HI5.out.c0
  rw [HV5.out] at r5
  have y5 := HY5.out w5 (Below.refl _ _)
  obtain ⟨y50, y51, y52⟩ := y5
  go_still_tail 10, (by kernel_rfl)
  change wpList _ _ _ _ _ w5.drew
  have hb6 : Below w5.heap.size w5 w5.drew := G.bdrewN (Below.refl _ _) 1
  obtain ⟨hR, hth⟩ := (HI5.out.below hb6).store (by rw [HM.out] at HV5; exact HV5.out) k HKL.out ⟨y.no, y.safe ++ y.tail, ⟨#[]⟩⟩
  have HR := Lib.hid (RStep.from' (Fr.of_below hb6) hR)
  clear r5 y50 y51 y52 x0
  refine wpList_store_mid rfl 57 (.tmp 261) (.tmp 260) rfl g5 (k * 3) #[.int .i64 y.no, .string (y.safe ++ y.tail), .string ⟨#[]⟩] rfl rfl hth size57 (by simp [Value.oneCell']) ?_
  clear hth hR hb6
  generalize World.setCells _ _ _ _ = w7 at *
  go_wp2
  go_ret
  exact ⟨rfl, RStep.from' (Fr.of_below HBW.out) (RStep.from' (Fr.of_below HB2.out) (RStep.cat HJ5.out HF5.out HR.out))⟩
set_option maxRecDepth 100000 in
set_option maxHeartbeats 8000000 in
theorem play_bad (B rb : Nat) (s : RS) (v : Value) (x : Ac) (w : World) (h : RInv B rb s v w) (hl : s.fs.length ≤ 1000000) (hk : x.p.kind = 3) (hn : 1 ≤ x.p.no ∧ x.p.no ≤ 1000000) (k : Nat) (hkl : k < s.fs.length) (ha : atI s.fs x.p.no = k) (hsz : s.fs[k].safe.size + s.fs[k].tail.size ≤ 1048576) (hst : 0 ≤ s.steps ∧ s.steps ≤ 1000000000) (hz : x.p.n < 0 ∨ (s.fs[k].safe.size : Int) + s.fs[k].tail.size < x.p.n) :
    Calls Try.prog 14 #[.pointer (some ⟨rb, 0, none⟩), av x] w fun e w' => e = .returned (.int .i64 1) ∧ Below w.heap.size w w' := by
  obtain ⟨⟨kind, no, n, t, picks⟩, PA, pc⟩ := x
  obtain ⟨W, hW⟩ : ∃ W, W = w.alloc (.cells #[.int .i64 kind, .int .i64 no, .int .i64 n, .string t, .slice PA picks.length pc] 28) := ⟨_, rfl⟩
  have hbW : Below w.heap.size w W := by rw [hW]; exact bel_allocT _ _
  have hI := h.below hbW
  have hxb : W.heap[w.heap.size]? = some (.cells #[.int .i64 kind, .int .i64 no, .int .i64 n, .string t, .slice PA picks.length pc] 28 (0, 0)) := by rw [hW]; exact G.heap_new _ _
  have hbb : ∀ V, Below W.heap.size W V → V.cell? ⟨w.heap.size, 0, none⟩ = some (.int .i64 kind) ∧ V.cell? ⟨w.heap.size, 1, none⟩ = some (.int .i64 no) ∧ V.cell? ⟨w.heap.size, 2, none⟩ = some (.int .i64 n) ∧ V.cell? ⟨w.heap.size, 3, none⟩ = some (.string t) := fun V hV => by
    have hlt := (Array.getElem?_eq_some_iff.1 hxb).1
    have := (hV.block _ hlt).trans hxb
    simp [World.cell?, this]
  have c0 := hI.c0
  have c1 := hI.c1
  have hlt := hI.lt
  have HI := Lib.hid hI
  have HBB := Lib.hid hbb
  have HBW := Lib.hid hbW
  have HW := Lib.hid hW
  rw [hW] at c0 c1 hlt
  have b0 := (hbb W (Below.refl _ _)).1
  have b1 := (hbb W (Below.refl _ _)).2.1
  rw [hW] at b0 b1
  replace hk : kind = 3 := hk
  subst hk
  have hn' : 1 ≤ no ∧ no ≤ 1000000 := hn
  have nl : ¬ no < 1 := by omega
  have nh : ¬ 1000000 < no := by omega
  have HAt := Lib.hid (at_any B rb s v no W hI hl)
  replace ha : atI s.fs no = k := ha
  rw [ha] at HAt
  obtain ⟨hn0, A, c, hv, hc⟩ := row3 (f := rfc) (fun _ => rfl) hI.row
  obtain ⟨g, hg, hcell⟩ := hc k hkl
  subst hg
  obtain ⟨m, hm⟩ : ∃ m, m = s.fs.length := ⟨_, rfl⟩
  obtain ⟨y, hy⟩ : ∃ y, y = s.fs[k] := ⟨_, rfl⟩
  have hkm : k < m := by omega
  rw [← hm] at hv hl
  replace hz : n < 0 ∨ (s.fs[k].safe.size : Int) + s.fs[k].tail.size < n := hz
  rw [← hy] at hcell hsz hz
  have HM := Lib.hid hm
  have HVv := Lib.hid hv
  have HCell : Hid (∀ V, Below W.heap.size W V → V.cell? ⟨g, k * 3, none⟩ = some (.int .i64 y.no) ∧ V.cell? ⟨g, k * 3 + 1, none⟩ = some (.string y.safe) ∧ V.cell? ⟨g, k * 3 + 2, none⟩ = some (.string y.tail)) := Lib.hid (fun V hV => ⟨hcell V hV 0 (by decide), hcell V hV 1 (by decide), hcell V hV 2 (by decide)⟩)
  have hcat : ¬ 9223372036854775807 < y.safe.size + y.tail.size := by omega
  have hkk : ¬ (k : Int) < 0 := by omega
  have HST := Lib.hid hst
  have HY := Lib.hid hy
  have HKL := Lib.hid hkl
  have HH := Lib.hid h
  clear hbb hxb hI h hbW hW hn hn' ha hv hm hc hcell hy hst hn0
  unfold av
  go_enter Try.func14, Try.ntmps14
  go_upto_region 36 with (go_at_call 25; rw [← HW.out]; refine HAt.out.mono ?_; rintro e w1 ⟨rfl, hb1⟩)
  have d0 := (HBB.out w1 hb1).1
  have d2 := (HBB.out w1 hb1).2.2.1
  have r0 := G.cell_below hb1 HI.out.c0
  rw [HVv.out] at r0
  have e0 := (HCell.out w1 hb1).1
  have e1 := (HCell.out w1 hb1).2.1
  have e2 := (HCell.out w1 hb1).2.2
  have hlt1 : rb < w1.heap.size := Nat.lt_of_lt_of_le HI.out.lt hb1.size
  have hxl1 : w.heap.size < w1.heap.size := by
    have := hb1.size
    rw [HW.out] at this
    simp at this
    omega
  have Hb1 := Lib.hid hb1
  rcases hz with h1 | h1
  · go_wp2
    go_ret
    exact ⟨rfl, HBW.out.trans (belowLe HBW.out.size (Hb1.out.trans (belowLe Hb1.out.size (bel_allocT _ _))))⟩
  · by_cases h2 : n < 0
    · omega
    · go_wp2
      go_ret
      exact ⟨rfl, HBW.out.trans (belowLe HBW.out.size (Hb1.out.trans (belowLe Hb1.out.size (bel_allocT _ _))))⟩
set_option maxRecDepth 100000 in
set_option maxHeartbeats 8000000 in
theorem play_tri (B rb : Nat) (s : RS) (v : Value) (x : Ac) (w : World) (h : RInv B rb s v w) (hl : s.fs.length ≤ 1000000) (hk : x.p.kind = 3) (hn : 1 ≤ x.p.no ∧ x.p.no ≤ 1000000) (k : Nat) (hkl : k < s.fs.length) (ha : atI s.fs x.p.no = k) (hsz : s.fs[k].safe.size + s.fs[k].tail.size ≤ 1048576) (hst : 0 ≤ s.steps ∧ s.steps ≤ 1000000000) (z : Nat) (hz : x.p.n = z) (hz2 : z ≤ s.fs[k].safe.size + s.fs[k].tail.size) (M : Nat) (hM : (z < s.fs[k].safe.size ∧ M = z) ∨ (s.fs[k].safe.size ≤ z ∧ M = s.fs[k].safe.size)) :
    Calls Try.prog 14 #[.pointer (some ⟨rb, 0, none⟩), av x] w fun e w' => e = .returned (.int .i64 0) ∧ RStep B rb v w ⟨s.fs.set k ⟨s.fs[k].no, (s.fs[k].safe ++ s.fs[k].tail).extract 0 M, (s.fs[k].safe ++ s.fs[k].tail).extract M z⟩, s.steps + 1⟩ w' := by
  obtain ⟨⟨kind, no, n, t, picks⟩, PA, pc⟩ := x
  obtain ⟨W, hW⟩ : ∃ W, W = w.alloc (.cells #[.int .i64 kind, .int .i64 no, .int .i64 n, .string t, .slice PA picks.length pc] 28) := ⟨_, rfl⟩
  have hbW : Below w.heap.size w W := by rw [hW]; exact bel_allocT _ _
  have hI := h.below hbW
  have hxb : W.heap[w.heap.size]? = some (.cells #[.int .i64 kind, .int .i64 no, .int .i64 n, .string t, .slice PA picks.length pc] 28 (0, 0)) := by rw [hW]; exact G.heap_new _ _
  have hbb : ∀ V, Below W.heap.size W V → V.cell? ⟨w.heap.size, 0, none⟩ = some (.int .i64 kind) ∧ V.cell? ⟨w.heap.size, 1, none⟩ = some (.int .i64 no) ∧ V.cell? ⟨w.heap.size, 2, none⟩ = some (.int .i64 n) ∧ V.cell? ⟨w.heap.size, 3, none⟩ = some (.string t) := fun V hV => by
    have hlt := (Array.getElem?_eq_some_iff.1 hxb).1
    have := (hV.block _ hlt).trans hxb
    simp [World.cell?, this]
  have c0 := hI.c0
  have c1 := hI.c1
  have hlt := hI.lt
  have HI := Lib.hid hI
  have HBB := Lib.hid hbb
  have HBW := Lib.hid hbW
  have HW := Lib.hid hW
  rw [hW] at c0 c1 hlt
  have b0 := (hbb W (Below.refl _ _)).1
  have b1 := (hbb W (Below.refl _ _)).2.1
  rw [hW] at b0 b1
  replace hk : kind = 3 := hk
  subst hk
  have hn' : 1 ≤ no ∧ no ≤ 1000000 := hn
  have nl : ¬ no < 1 := by omega
  have nh : ¬ 1000000 < no := by omega
  have HAt := Lib.hid (at_any B rb s v no W hI hl)
  replace ha : atI s.fs no = k := ha
  rw [ha] at HAt
  obtain ⟨hn0, A, c, hv, hc⟩ := row3 (f := rfc) (fun _ => rfl) hI.row
  obtain ⟨g, hg, hcell⟩ := hc k hkl
  subst hg
  obtain ⟨m, hm⟩ : ∃ m, m = s.fs.length := ⟨_, rfl⟩
  obtain ⟨y, hy⟩ : ∃ y, y = s.fs[k] := ⟨_, rfl⟩
  have hkm : k < m := by omega
  rw [← hm] at hv hl
  replace hz : n = z := hz
  subst hz
  rw [← hy] at hcell hsz hz2 hM ⊢
  have h1 : ¬ (z : Int) < 0 := by omega
  have h2 : ¬ (y.safe.size : Int) + y.tail.size < z := by omega
  have HM := Lib.hid hm
  have HVv := Lib.hid hv
  have HCell : Hid (∀ V, Below W.heap.size W V → V.cell? ⟨g, k * 3, none⟩ = some (.int .i64 y.no) ∧ V.cell? ⟨g, k * 3 + 1, none⟩ = some (.string y.safe) ∧ V.cell? ⟨g, k * 3 + 2, none⟩ = some (.string y.tail)) := Lib.hid (fun V hV => ⟨hcell V hV 0 (by decide), hcell V hV 1 (by decide), hcell V hV 2 (by decide)⟩)
  have hcat : ¬ 9223372036854775807 < y.safe.size + y.tail.size := by omega
  have hkk : ¬ (k : Int) < 0 := by omega
  have HST := Lib.hid hst
  have HY := Lib.hid hy
  have HKL := Lib.hid hkl
  have HH := Lib.hid h
  clear hbb hxb hI h hbW hW hn hn' ha hv hm hc hcell hy hst hn0
  unfold av
  go_enter Try.func14, Try.ntmps14
  go_upto_region 36 with (go_at_call 25; rw [← HW.out]; refine HAt.out.mono ?_; rintro e w1 ⟨rfl, hb1⟩)
  have d0 := (HBB.out w1 hb1).1
  have d2 := (HBB.out w1 hb1).2.2.1
  have r0 := G.cell_below hb1 HI.out.c0
  rw [HVv.out] at r0
  have e0 := (HCell.out w1 hb1).1
  have e1 := (HCell.out w1 hb1).2.1
  have e2 := (HCell.out w1 hb1).2.2
  have hlt1 : rb < w1.heap.size := Nat.lt_of_lt_of_le HI.out.lt hb1.size
  have hxl1 : w.heap.size < w1.heap.size := by
    have := hb1.size
    rw [HW.out] at this
    simp at this
    omega
  have Hb1 := Lib.hid hb1
  go_upto_region 54 with (fail)
  obtain ⟨w2, hw2⟩ : ∃ w2, w2 = w1.alloc (.cells #[.int .i64 y.no, .string y.safe, .string y.tail] 57) := ⟨_, rfl⟩
  have hb2 : Below W.heap.size W w2 := by rw [hw2]; exact Hb1.out.trans (belowLe Hb1.out.size (bel_allocT _ _))
  have hfb : w2.heap[w1.heap.size]? = some (.cells #[.int .i64 y.no, .string y.safe, .string y.tail] 57 (0, 0)) := by rw [hw2]; exact G.heap_new _ _
  have HC27 := Lib.hid (rstep_any B rb s v w2 (HI.out.below hb2) HST.out)
  have hnx : ¬ RFoot rb v w.heap.size := fun hf => by have := HH.out.foot_lt hf; omega
  have hnf : ¬ RFoot rb v w1.heap.size := fun hf => by have := (HI.out.below Hb1.out).foot_lt hf; omega
  rw [← hw2]
  have HB2 := Lib.hid hb2
  have HFB := Lib.hid hfb
  clear hw2 hb2 hfb d0 d2 r0 e0 e1 e2 hlt1 hxl1
  go_upto_region 56 with (go_at_call 27; refine HC27.out.mono ?_; rintro e w5 ⟨rfl, hs5⟩)
  obtain ⟨v5, i5, j5, f5⟩ := hs5
  have HX5 : Hid (∀ V, Below w5.heap.size w5 V → V.cell? ⟨w.heap.size, 0, none⟩ = some (.int .i64 3) ∧ V.cell? ⟨w.heap.size, 2, none⟩ = some (.int .i64 z)) := Lib.hid (fun V hV =>
    ⟨G.cell_below hV (cell_fr f5 hnx (HBB.out w2 HB2.out).1), G.cell_below hV (cell_fr f5 hnx (HBB.out w2 HB2.out).2.2.1)⟩)
  have HY5 : Hid (∀ V, Below w5.heap.size w5 V → V.cell? ⟨w1.heap.size, 0, none⟩ = some (.int .i64 y.no) ∧ V.cell? ⟨w1.heap.size, 1, none⟩ = some (.string y.safe) ∧ V.cell? ⟨w1.heap.size, 2, none⟩ = some (.string y.tail)) := Lib.hid (fun V hV =>
    ⟨G.cell_below hV (cell_fr f5 hnf (by simp [World.cell?, HFB.out])), G.cell_below hV (cell_fr f5 hnf (by simp [World.cell?, HFB.out])), G.cell_below hV (cell_fr f5 hnf (by simp [World.cell?, HFB.out]))⟩)
  obtain ⟨_, A5, c5, hv5, hc5⟩ := row3 (f := rfc) (fun _ => rfl) i5.row
  obtain ⟨g5, hg5, hcell5⟩ := hc5 k HKL.out
  subst hg5
  replace hv5 : v5 = .slice (some ⟨g5, 0, none⟩) s.fs.length c5 := hv5
  rw [← HM.out] at hv5
  have HV5 := Lib.hid hv5
  have HI5 := Lib.hid i5
  have HJ5 := Lib.hid j5
  have HF5 := Lib.hid f5
  have x0 := (HX5.out w5 (Below.refl _ _)).1
  have hlt5 := i5.lt
  clear hv5 hc5 hcell5 i5 j5 f5 hnx hnf
  have x2 := (HX5.out w5 (Below.refl _ _)).2
  have y1 := (HY5.out w5 (Below.refl _ _)).2.1
  have hss : y.safe.size ≤ 1048576 := by omega
  have hsa : (y.safe ++ y.tail).size = y.safe.size + y.tail.size := ByteArray.size_append
  rcases hM with ⟨hm1, rfl⟩ | ⟨hm1, rfl⟩
  · have hm2 : (M : Int) < y.safe.size := by omega
    have l1 := slice_str (y.safe ++ y.tail) (M) (by omega)
    have l2 := slice_mid (y.safe ++ y.tail) (M) M (by omega) (by omega)
    obtain ⟨E, hE⟩ : ∃ E, E = (y.safe ++ y.tail).extract (M) M := ⟨_, rfl⟩
    rw [← hE] at l2
    have HE := Lib.hid hE
    clear hE
    go_upto_region 63 with (fail)
    clear x0 x2 y1
    have r5 := HI5.out.c0
    rw [HV5.out] at r5
    obtain ⟨y50, y51, y52⟩ := HY5.out w5 (Below.refl _ _)
    have x2 := (HX5.out w5 (Below.refl _ _)).2
    go_still_tail 17, (by kernel_rfl)
    change wpList _ _ _ _ _ w5.drew
    have hb6 : Below w5.heap.size w5 w5.drew := G.bdrewN (Below.refl _ _) 1
    obtain ⟨hR, hth⟩ := (HI5.out.below hb6).store (by rw [HM.out] at HV5; exact HV5.out) k HKL.out ⟨y.no, (y.safe ++ y.tail).extract 0 (M), E⟩
    have HR := Lib.hid (RStep.from' (Fr.of_below hb6) hR)
    refine wpList_store_mid rfl 57 (.tmp 289) (.tmp 288) rfl g5 (k * 3) #[.int .i64 y.no, .string ((y.safe ++ y.tail).extract 0 (M)), .string E] rfl rfl hth size57 (by simp [Value.oneCell']) ?_
    generalize World.setCells _ _ _ _ = w7 at *
    go_wp2
    go_ret
    have hr := HR.out
    rw [HE.out, show (y.safe ++ y.tail).extract M M = ByteArray.empty by simp] at hr
    exact ⟨rfl, RStep.from' (Fr.of_below HBW.out) (RStep.from' (Fr.of_below HB2.out) (RStep.cat HJ5.out HF5.out hr))⟩
  · have hm2 : ¬ (z : Int) < y.safe.size := by omega
    have l1 := slice_str (y.safe ++ y.tail) (y.safe.size) (by omega)
    have l2 := slice_mid (y.safe ++ y.tail) (y.safe.size) z (by omega) (by omega)
    obtain ⟨E, hE⟩ : ∃ E, E = (y.safe ++ y.tail).extract (y.safe.size) z := ⟨_, rfl⟩
    rw [← hE] at l2
    have HE := Lib.hid hE
    clear hE
    go_upto_region 63 with (fail)
    clear x0 x2 y1
    have r5 := HI5.out.c0
    rw [HV5.out] at r5
    obtain ⟨y50, y51, y52⟩ := HY5.out w5 (Below.refl _ _)
    have x2 := (HX5.out w5 (Below.refl _ _)).2
    go_still_tail 17, (by kernel_rfl)
    change wpList _ _ _ _ _ w5.drew
    have hb6 : Below w5.heap.size w5 w5.drew := G.bdrewN (Below.refl _ _) 1
    obtain ⟨hR, hth⟩ := (HI5.out.below hb6).store (by rw [HM.out] at HV5; exact HV5.out) k HKL.out ⟨y.no, (y.safe ++ y.tail).extract 0 (y.safe.size), E⟩
    have HR := Lib.hid (RStep.from' (Fr.of_below hb6) hR)
    refine wpList_store_mid rfl 57 (.tmp 289) (.tmp 288) rfl g5 (k * 3) #[.int .i64 y.no, .string ((y.safe ++ y.tail).extract 0 (y.safe.size)), .string E] rfl rfl hth size57 (by simp [Value.oneCell']) ?_
    generalize World.setCells _ _ _ _ = w7 at *
    go_wp2
    go_ret
    have hr := HR.out
    rw [HE.out] at hr
    exact ⟨rfl, RStep.from' (Fr.of_below HBW.out) (RStep.from' (Fr.of_below HB2.out) (RStep.cat HJ5.out HF5.out hr))⟩
end Go.Proofs.Ytdmjbdecemajpaa.D
