/- The reference's disk: Play, kind 1, and the ways that end early. -/
import Derived.Test.YtdmjbdecemajpaaDf2
import Derived.StillTailTactics
namespace Go.Proofs.Ytdmjbdecemajpaa.D
set_option linter.unusedVariables false
set_option linter.unusedSimpArgs false
open Go.RowKit
theorem set_tail : ∀ (l : List RF) (k : Nat) (hk : k < l.length) (t : ByteArray), (l.set k ⟨l[k].no, l[k].safe, t⟩).flatMap rfc = (l.flatMap rfc).set (k * 3 + 2) (.string t)
  | x :: l, 0, _, t => rfl
  | x :: l, k + 1, hk, t => by
    have := set_tail l k (by simpa using hk) t
    rw [List.getElem_cons_succ, List.set_cons_succ, List.flatMap_cons, List.flatMap_cons, this]
    have e : (k + 1) * 3 + 2 = (rfc x).length + (k * 3 + 2) := by simp [rfc]; omega
    rw [e, List.set_append_right _ _ (by omega)]
    congr 2
    omega
set_option maxRecDepth 100000 in
set_option maxHeartbeats 8000000 in
theorem play_low (B rb : Nat) (s : RS) (v : Value) (x : Ac) (w : World) (h : RInv B rb s v w) (hl : s.fs.length ≤ 1000000) (hk : x.p.kind < 1) :
    Calls Try.prog 14 #[.pointer (some ⟨rb, 0, none⟩), av x] w fun e w' => e = .returned (.int .i64 0) ∧ Below w.heap.size w w' := by
  obtain ⟨⟨kind, no, n, t, picks⟩, PA, pc⟩ := x
  obtain ⟨W, hW⟩ : ∃ W, W = w.alloc (.cells #[.int .i64 kind, .int .i64 no, .int .i64 n, .string t, .slice PA picks.length pc] 28) := ⟨_, rfl⟩
  have hbW : Below w.heap.size w W := by rw [hW]; exact bel_allocT _ _
  have hI := h.below hbW
  have hxb : W.heap[w.heap.size]? = some (.cells #[.int .i64 kind, .int .i64 no, .int .i64 n, .string t, .slice PA picks.length pc] 28 (0, 0)) := by rw [hW]; exact G.heap_new _ _
  have hbb : ∀ V, Below W.heap.size W V → V.cell? ⟨w.heap.size, 0, none⟩ = some (.int .i64 kind) ∧ V.cell? ⟨w.heap.size, 1, none⟩ = some (.int .i64 no) ∧ V.cell? ⟨w.heap.size, 2, none⟩ = some (.int .i64 n) ∧ V.cell? ⟨w.heap.size, 3, none⟩ = some (.string t) := fun V hV => by
    have hlt := (Array.getElem?_eq_some_iff.1 hxb).1
    have := (hV.block _ hlt).trans hxb
    simp [World.cell?, this]
  have c0 := hI.c0
  have c1 := hI.c1
  have hlt := hI.lt
  have HI := Lib.hid hI
  have HBB := Lib.hid hbb
  have HBW := Lib.hid hbW
  have HW := Lib.hid hW
  rw [hW] at c0 c1 hlt
  have b0 := (hbb W (Below.refl _ _)).1
  have b1 := (hbb W (Below.refl _ _)).2.1
  rw [hW] at b0 b1
  have hk' : kind < 1 := hk
  clear hbb hxb hI h hbW hW hk
  unfold av
  go_enter Try.func14, Try.ntmps14
  go_wp2
  go_ret
  exact ⟨rfl, by rw [← HW.out]; exact HBW.out⟩
set_option maxRecDepth 100000 in
set_option maxHeartbeats 8000000 in
theorem play_arg (B rb : Nat) (s : RS) (v : Value) (x : Ac) (w : World) (h : RInv B rb s v w) (hl : s.fs.length ≤ 1000000) (hk : 1 ≤ x.p.kind ∧ x.p.kind ≤ 4) (hn : x.p.no < 1 ∨ 1000000 < x.p.no) :
    Calls Try.prog 14 #[.pointer (some ⟨rb, 0, none⟩), av x] w fun e w' => e = .returned (.int .i64 1) ∧ Below w.heap.size w w' := by
  obtain ⟨⟨kind, no, n, t, picks⟩, PA, pc⟩ := x
  obtain ⟨W, hW⟩ : ∃ W, W = w.alloc (.cells #[.int .i64 kind, .int .i64 no, .int .i64 n, .string t, .slice PA picks.length pc] 28) := ⟨_, rfl⟩
  have hbW : Below w.heap.size w W := by rw [hW]; exact bel_allocT _ _
  have hI := h.below hbW
  have hxb : W.heap[w.heap.size]? = some (.cells #[.int .i64 kind, .int .i64 no, .int .i64 n, .string t, .slice PA picks.length pc] 28 (0, 0)) := by rw [hW]; exact G.heap_new _ _
  have hbb : ∀ V, Below W.heap.size W V → V.cell? ⟨w.heap.size, 0, none⟩ = some (.int .i64 kind) ∧ V.cell? ⟨w.heap.size, 1, none⟩ = some (.int .i64 no) ∧ V.cell? ⟨w.heap.size, 2, none⟩ = some (.int .i64 n) ∧ V.cell? ⟨w.heap.size, 3, none⟩ = some (.string t) := fun V hV => by
    have hlt := (Array.getElem?_eq_some_iff.1 hxb).1
    have := (hV.block _ hlt).trans hxb
    simp [World.cell?, this]
  have c0 := hI.c0
  have c1 := hI.c1
  have hlt := hI.lt
  have HI := Lib.hid hI
  have HBB := Lib.hid hbb
  have HBW := Lib.hid hbW
  have HW := Lib.hid hW
  rw [hW] at c0 c1 hlt
  have b0 := (hbb W (Below.refl _ _)).1
  have b1 := (hbb W (Below.refl _ _)).2.1
  rw [hW] at b0 b1
  have hk' : 1 ≤ kind ∧ kind ≤ 4 := hk
  have hn' : no < 1 ∨ 1000000 < no := hn
  clear hbb hxb hI h hbW hW hk hn
  unfold av
  obtain ⟨k1, k2⟩ := hk'
  have k7 : ¬ kind = 7 := by omega
  have k5 : ¬ kind = 5 := by omega
  have k6 : ¬ kind = 6 := by omega
  have kl : ¬ kind < 1 := by omega
  have kh : ¬ 7 < kind := by omega
  rcases hn' with h1 | h1
  · go_enter Try.func14, Try.ntmps14
    go_wp2
    go_ret
    exact ⟨rfl, by rw [← HW.out]; exact HBW.out⟩
  · have h2 : ¬ no < 1 := by omega
    go_enter Try.func14, Try.ntmps14
    go_wp2
    go_ret
    exact ⟨rfl, by rw [← HW.out]; exact HBW.out⟩
set_option maxRecDepth 100000 in
set_option maxHeartbeats 8000000 in
theorem play_none (B rb : Nat) (s : RS) (v : Value) (x : Ac) (w : World) (h : RInv B rb s v w) (hl : s.fs.length ≤ 1000000) (hk : 2 ≤ x.p.kind ∧ x.p.kind ≤ 4) (hn : 1 ≤ x.p.no ∧ x.p.no ≤ 1000000) (ha : atI s.fs x.p.no = -1) :
    Calls Try.prog 14 #[.pointer (some ⟨rb, 0, none⟩), av x] w fun e w' => e = .returned (.int .i64 7) ∧ Below w.heap.size w w' := by
  obtain ⟨⟨kind, no, n, t, picks⟩, PA, pc⟩ := x
  obtain ⟨W, hW⟩ : ∃ W, W = w.alloc (.cells #[.int .i64 kind, .int .i64 no, .int .i64 n, .string t, .slice PA picks.length pc] 28) := ⟨_, rfl⟩
  have hbW : Below w.heap.size w W := by rw [hW]; exact bel_allocT _ _
  have hI := h.below hbW
  have hxb : W.heap[w.heap.size]? = some (.cells #[.int .i64 kind, .int .i64 no, .int .i64 n, .string t, .slice PA picks.length pc] 28 (0, 0)) := by rw [hW]; exact G.heap_new _ _
  have hbb : ∀ V, Below W.heap.size W V → V.cell? ⟨w.heap.size, 0, none⟩ = some (.int .i64 kind) ∧ V.cell? ⟨w.heap.size, 1, none⟩ = some (.int .i64 no) ∧ V.cell? ⟨w.heap.size, 2, none⟩ = some (.int .i64 n) ∧ V.cell? ⟨w.heap.size, 3, none⟩ = some (.string t) := fun V hV => by
    have hlt := (Array.getElem?_eq_some_iff.1 hxb).1
    have := (hV.block _ hlt).trans hxb
    simp [World.cell?, this]
  have c0 := hI.c0
  have c1 := hI.c1
  have hlt := hI.lt
  have HI := Lib.hid hI
  have HBB := Lib.hid hbb
  have HBW := Lib.hid hbW
  have HW := Lib.hid hW
  rw [hW] at c0 c1 hlt
  have b0 := (hbb W (Below.refl _ _)).1
  have b1 := (hbb W (Below.refl _ _)).2.1
  rw [hW] at b0 b1
  have hn' : 1 ≤ no ∧ no ≤ 1000000 := hn
  have hk2 : 2 ≤ kind ∧ kind ≤ 4 := hk
  replace hk : 1 ≤ kind ∧ kind ≤ 4 := by omega
  have hk' : 1 ≤ kind ∧ kind ≤ 4 := hk
  have k7 : ¬ kind = 7 := by omega
  have k5 : ¬ kind = 5 := by omega
  have k6 : ¬ kind = 6 := by omega
  have kl : ¬ kind < 1 := by omega
  have kh : ¬ 7 < kind := by omega
  have nl : ¬ no < 1 := by omega
  have nh : ¬ 1000000 < no := by omega
  have k1 : ¬ kind = 1 := by omega
  have HAt := Lib.hid (at_any B rb s v no W hI hl)
  replace ha : atI s.fs no = -1 := ha
  rw [ha] at HAt
  clear hbb hxb hI h hbW hW hk hn hk' hn' hk2 ha
  unfold av
  go_enter Try.func14, Try.ntmps14
  go_upto_region 36 with (go_at_call 25; rw [← HW.out]; refine HAt.out.mono ?_; rintro e w1 ⟨rfl, hb1⟩)
  have d0 := (HBB.out w1 hb1).1
  have Hb1 := Lib.hid (HBW.out.trans (belowLe HBW.out.size hb1))
  go_wp2
  go_ret
  exact ⟨rfl, Hb1.out⟩
set_option maxRecDepth 100000 in
set_option maxHeartbeats 8000000 in
theorem play_full (B rb : Nat) (s : RS) (v : Value) (x : Ac) (w : World) (h : RInv B rb s v w) (hl : s.fs.length ≤ 1000000) (hk : x.p.kind = 1) (hn : 1 ≤ x.p.no ∧ x.p.no ≤ 1000000) (hts : x.p.s.size ≤ 300) (ha : atI s.fs x.p.no = -1) (hf : 110 ≤ s.fs.length) :
    Calls Try.prog 14 #[.pointer (some ⟨rb, 0, none⟩), av x] w fun e w' => e = .returned (.int .i64 9) ∧ Below w.heap.size w w' := by
  obtain ⟨⟨kind, no, n, t, picks⟩, PA, pc⟩ := x
  obtain ⟨W, hW⟩ : ∃ W, W = w.alloc (.cells #[.int .i64 kind, .int .i64 no, .int .i64 n, .string t, .slice PA picks.length pc] 28) := ⟨_, rfl⟩
  have hbW : Below w.heap.size w W := by rw [hW]; exact bel_allocT _ _
  have hI := h.below hbW
  have hxb : W.heap[w.heap.size]? = some (.cells #[.int .i64 kind, .int .i64 no, .int .i64 n, .string t, .slice PA picks.length pc] 28 (0, 0)) := by rw [hW]; exact G.heap_new _ _
  have hbb : ∀ V, Below W.heap.size W V → V.cell? ⟨w.heap.size, 0, none⟩ = some (.int .i64 kind) ∧ V.cell? ⟨w.heap.size, 1, none⟩ = some (.int .i64 no) ∧ V.cell? ⟨w.heap.size, 2, none⟩ = some (.int .i64 n) ∧ V.cell? ⟨w.heap.size, 3, none⟩ = some (.string t) := fun V hV => by
    have hlt := (Array.getElem?_eq_some_iff.1 hxb).1
    have := (hV.block _ hlt).trans hxb
    simp [World.cell?, this]
  have c0 := hI.c0
  have c1 := hI.c1
  have hlt := hI.lt
  have HI := Lib.hid hI
  have HBB := Lib.hid hbb
  have HBW := Lib.hid hbW
  have HW := Lib.hid hW
  rw [hW] at c0 c1 hlt
  have b0 := (hbb W (Below.refl _ _)).1
  have b1 := (hbb W (Below.refl _ _)).2.1
  rw [hW] at b0 b1
  replace hk : kind = 1 := hk
  subst hk
  have hn' : 1 ≤ no ∧ no ≤ 1000000 := hn
  have hts' : t.size ≤ 300 := hts
  have nl : ¬ no < 1 := by omega
  have nh : ¬ 1000000 < no := by omega
  have HAt := Lib.hid (at_any B rb s v no W hI hl)
  replace ha : atI s.fs no = -1 := ha
  rw [ha] at HAt
  obtain ⟨A, c, hv⟩ := owns_shape hI.row
  obtain ⟨m, hm⟩ : ∃ m, m = s.fs.length := ⟨_, rfl⟩
  rw [← hm] at hv hl hf
  have hfi : (110 : Int) ≤ m := by omega
  have HVv := Lib.hid hv
  clear hbb hxb hI h hbW hW hn hn' ha hts hv hm hf
  unfold av
  go_enter Try.func14, Try.ntmps14
  go_upto_region 36 with (go_at_call 25; rw [← HW.out]; refine HAt.out.mono ?_; rintro e w1 ⟨rfl, hb1⟩)
  have d0 := (HBB.out w1 hb1).1
  have d3 := (HBB.out w1 hb1).2.2.2
  have r0 := G.cell_below hb1 HI.out.c0
  rw [HVv.out] at r0
  have hlt1 : rb < w1.heap.size := Nat.lt_of_lt_of_le HI.out.lt hb1.size
  have Hb1 := Lib.hid (HBW.out.trans (belowLe HBW.out.size hb1))
  go_wp2
  go_quiet (fail)
  go_wp2
  go_ret
  exact ⟨rfl, G.bdrewN Hb1.out _⟩
set_option maxRecDepth 100000 in
set_option maxHeartbeats 8000000 in
theorem play_app (B rb : Nat) (s : RS) (v : Value) (x : Ac) (w : World) (h : RInv B rb s v w) (hl : s.fs.length ≤ 1000000) (hk : x.p.kind = 1) (hn : 1 ≤ x.p.no ∧ x.p.no ≤ 1000000) (hts : x.p.s.size ≤ 300) (k : Nat) (hkl : k < s.fs.length) (ha : atI s.fs x.p.no = k) (hsz : s.fs[k].safe.size + s.fs[k].tail.size + x.p.s.size ≤ 1048576) (hst : 0 ≤ s.steps ∧ s.steps ≤ 1000000000) :
    Calls Try.prog 14 #[.pointer (some ⟨rb, 0, none⟩), av x] w fun e w' => e = .returned (.int .i64 0) ∧ RStep B rb v w ⟨s.fs.set k ⟨s.fs[k].no, s.fs[k].safe, s.fs[k].tail ++ x.p.s⟩, s.steps + 1⟩ w' := by
  obtain ⟨⟨kind, no, n, t, picks⟩, PA, pc⟩ := x
  obtain ⟨W, hW⟩ : ∃ W, W = w.alloc (.cells #[.int .i64 kind, .int .i64 no, .int .i64 n, .string t, .slice PA picks.length pc] 28) := ⟨_, rfl⟩
  have hbW : Below w.heap.size w W := by rw [hW]; exact bel_allocT _ _
  have hI := h.below hbW
  have hxb : W.heap[w.heap.size]? = some (.cells #[.int .i64 kind, .int .i64 no, .int .i64 n, .string t, .slice PA picks.length pc] 28 (0, 0)) := by rw [hW]; exact G.heap_new _ _
  have hbb : ∀ V, Below W.heap.size W V → V.cell? ⟨w.heap.size, 0, none⟩ = some (.int .i64 kind) ∧ V.cell? ⟨w.heap.size, 1, none⟩ = some (.int .i64 no) ∧ V.cell? ⟨w.heap.size, 2, none⟩ = some (.int .i64 n) ∧ V.cell? ⟨w.heap.size, 3, none⟩ = some (.string t) := fun V hV => by
    have hlt := (Array.getElem?_eq_some_iff.1 hxb).1
    have := (hV.block _ hlt).trans hxb
    simp [World.cell?, this]
  have c0 := hI.c0
  have c1 := hI.c1
  have hlt := hI.lt
  have HI := Lib.hid hI
  have HBB := Lib.hid hbb
  have HBW := Lib.hid hbW
  have HW := Lib.hid hW
  rw [hW] at c0 c1 hlt
  have b0 := (hbb W (Below.refl _ _)).1
  have b1 := (hbb W (Below.refl _ _)).2.1
  rw [hW] at b0 b1
  replace hk : kind = 1 := hk
  subst hk
  have hn' : 1 ≤ no ∧ no ≤ 1000000 := hn
  have hts' : t.size ≤ 300 := hts
  have nl : ¬ no < 1 := by omega
  have nh : ¬ 1000000 < no := by omega
  have HAt := Lib.hid (at_any B rb s v no W hI hl)
  replace ha : atI s.fs no = k := ha
  rw [ha] at HAt
  obtain ⟨hn0, A, c, hv, hc⟩ := row3 (f := rfc) (fun _ => rfl) hI.row
  obtain ⟨g, hg, hcell⟩ := hc k hkl
  subst hg
  obtain ⟨m, hm⟩ : ∃ m, m = s.fs.length := ⟨_, rfl⟩
  obtain ⟨y, hy⟩ : ∃ y, y = s.fs[k] := ⟨_, rfl⟩
  replace hsz : s.fs[k].safe.size + s.fs[k].tail.size + t.size ≤ 1048576 := hsz
  have hkm : k < m := by omega
  have HSet := Lib.hid (set_tail s.fs k hkl (y.tail ++ t))
  rw [← hm] at hv hl
  rw [← hy] at hcell hsz HSet ⊢
  have HM := Lib.hid hm
  have HVv := Lib.hid hv
  have HCell : Hid (∀ V, Below W.heap.size W V → V.cell? ⟨g, k * 3 + 1, none⟩ = some (.string y.safe) ∧ V.cell? ⟨g, k * 3 + 2, none⟩ = some (.string y.tail)) := Lib.hid (fun V hV => ⟨hcell V hV 1 (by decide), hcell V hV 2 (by decide)⟩)
  have hsum : ¬ (1048576 : Int) < (y.safe.size : Int) + y.tail.size + t.size := by omega
  have hsum' : decide ((1048576 : Int) < (y.safe.size : Int) + y.tail.size + t.size) = false := decide_eq_false hsum
  have hcat : ¬ 9223372036854775807 < y.tail.size + t.size := by omega
  have hS1 : y.safe.size ≤ 1048576 := by omega
  have hS2 : y.tail.size ≤ 1048576 := by omega
  have HST := Lib.hid hst
  clear hbb hxb hI h hbW hW hn hn' ha hts hv hm hc hcell hy hst hn0
  unfold av
  go_enter Try.func14, Try.ntmps14
  go_upto_region 36 with (go_at_call 25; rw [← HW.out]; refine HAt.out.mono ?_; rintro e w1 ⟨rfl, hb1⟩)
  have d0 := (HBB.out w1 hb1).1
  have d3 := (HBB.out w1 hb1).2.2.2
  have r0 := G.cell_below hb1 HI.out.c0
  rw [HVv.out] at r0
  have e1 := (HCell.out w1 hb1).1
  have e2 := (HCell.out w1 hb1).2
  have hlt1 : rb < w1.heap.size := Nat.lt_of_lt_of_le HI.out.lt hb1.size
  have Hb1 := Lib.hid hb1
  go_wp2
  go_quiet (fail)
  go_wp2
  generalize hz : w1.drewN nq = w3
  have hB3 : Below W.heap.size W w3 := by rw [← hz]; exact G.bdrewN Hb1.out _
  clear hz e1 e2 d0 d3 r0
  have q0 := G.cell_below hB3 HI.out.c0
  rw [HVv.out] at q0
  have q2 := (HCell.out w3 hB3).2
  have q3 := (HBB.out w3 hB3).2.2.2
  have hlt3 : rb < w3.heap.size := Nat.lt_of_lt_of_le HI.out.lt hB3.size
  have HB3 := Lib.hid hB3
  clear hB3 hlt1
  go_still_tail 18, (by kernel_rfl)
  change wpList _ _ _ _ _ w3.drew
  have hB4 : Below W.heap.size W w3.drew := G.bdrewN HB3.out 1
  generalize w3.drew = w4 at *
  clear q0 q2 q3 hlt3
  have z2 := (HCell.out w4 hB4).2
  have ho4 := (HI.out.below hB4).row
  rw [HVv.out, ← HM.out] at ho4
  have zf := ho4.frozenAt (k * 3 + 2)
  obtain ⟨st1, st2⟩ := ho4.stored (k * 3 + 2) (.string (y.tail ++ t))
  have hP : RStep B rb v W ⟨s.fs.set k ⟨y.no, y.safe, y.tail ++ t⟩, s.steps⟩ (w4.setCell ⟨g, k * 3 + 2, none⟩ (.string (y.tail ++ t))) := by
    refine RStep.from' (Fr.of_below hB4) ((HI.out.below hB4).poke _ ?_ ?_ (by simp))
    · rw [HVv.out]; exact st2
    · rw [HVv.out, HSet.out, ← HM.out]; exact st1
  generalize hw5 : w4.setCell ⟨g, k * 3 + 2, none⟩ (.string (y.tail ++ t)) = w5 at hP
  obtain ⟨v5, i5, j5, f5⟩ := hP
  have HP := Lib.hid (show RStep B rb v W ⟨s.fs.set k ⟨y.no, y.safe, y.tail ++ t⟩, s.steps⟩ w5 from ⟨v5, i5, j5, f5⟩)
  have HC27 := Lib.hid (rstep_any B rb _ v5 w5 i5 HST.out)
  have HI5 := Lib.hid i5
  have HJ5 := Lib.hid j5
  have HF5 := Lib.hid f5
  clear st1 st2 ho4 i5 j5 f5
  go_wp2_with (go_at_call 27; refine HC27.out.mono ?_; rintro e w6 ⟨rfl, hs6⟩)
  go_ret
  obtain ⟨v7, i7, j7, f7⟩ := hs6
  refine ⟨rfl, RStep.from' (Fr.of_below HBW.out) ⟨v7, i7, fun j hj => ?_, HF5.out.trans f7 HJ5.out⟩⟩
  rcases j7 j hj with h4 | h4
  · exact HJ5.out j h4
  · exact .inr (Nat.le_trans HF5.out.size h4)
end Go.Proofs.Ytdmjbdecemajpaa.D
