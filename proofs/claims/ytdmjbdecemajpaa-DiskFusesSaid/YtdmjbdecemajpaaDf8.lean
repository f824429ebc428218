/- The reference's disk: Play, kind 1, a text too long. -/
import Derived.Test.YtdmjbdecemajpaaDf3
namespace Go.Proofs.Ytdmjbdecemajpaa.D
set_option linter.unusedVariables false
set_option linter.unusedSimpArgs false
open Go.RowKit
set_option maxRecDepth 100000 in
set_option maxHeartbeats 8000000 in
theorem play_long (B rb : Nat) (s : RS) (v : Value) (x : Ac) (w : World) (h : RInv B rb s v w) (hl : s.fs.length ≤ 1000000) (hk : x.p.kind = 1) (hn : 1 ≤ x.p.no ∧ x.p.no ≤ 1000000) (hts : x.p.s.size ≤ 300) (k : Nat) (hkl : k < s.fs.length) (ha : atI s.fs x.p.no = k) (hs2 : s.fs[k].safe.size + s.fs[k].tail.size ≤ 1048576) (hsz : 1048576 < s.fs[k].safe.size + s.fs[k].tail.size + x.p.s.size) :
    Calls Try.prog 14 #[.pointer (some ⟨rb, 0, none⟩), av x] w fun e w' => e = .returned (.int .i64 5) ∧ Below w.heap.size w w' := by
  obtain ⟨⟨kind, no, n, t, picks⟩, PA, pc⟩ := x
  obtain ⟨W, hW⟩ : ∃ W, W = w.alloc (.cells #[.int .i64 kind, .int .i64 no, .int .i64 n, .string t, .slice PA picks.length pc] 28) := ⟨_, rfl⟩
  have hbW : Below w.heap.size w W := by rw [hW]; exact bel_allocT _ _
  have hI := h.below hbW
  have hxb : W.heap[w.heap.size]? = some (.cells #[.int .i64 kind, .int .i64 no, .int .i64 n, .string t, .slice PA picks.length pc] 28 (0, 0)) := by rw [hW]; exact G.heap_new _ _
  have hbb : ∀ V, Below W.heap.size W V → V.cell? ⟨w.heap.size, 0, none⟩ = some (.int .i64 kind) ∧ V.cell? ⟨w.heap.size, 1, none⟩ = some (.int .i64 no) ∧ V.cell? ⟨w.heap.size, 2, none⟩ = some (.int .i64 n) ∧ V.cell? ⟨w.heap.size, 3, none⟩ = some (.string t) := fun V hV => by
    have hlt := (Array.getElem?_eq_some_iff.1 hxb).1
    have := (hV.block _ hlt).trans hxb
    simp [World.cell?, this]
  have c0 := hI.c0
  have c1 := hI.c1
  have hlt := hI.lt
  have HI := Lib.hid hI
  have HBB := Lib.hid hbb
  have HBW := Lib.hid hbW
  have HW := Lib.hid hW
  rw [hW] at c0 c1 hlt
  have b0 := (hbb W (Below.refl _ _)).1
  have b1 := (hbb W (Below.refl _ _)).2.1
  rw [hW] at b0 b1
  replace hk : kind = 1 := hk
  subst hk
  have hn' : 1 ≤ no ∧ no ≤ 1000000 := hn
  have hts' : t.size ≤ 300 := hts
  have nl : ¬ no < 1 := by omega
  have nh : ¬ 1000000 < no := by omega
  have HAt := Lib.hid (at_any B rb s v no W hI hl)
  replace ha : atI s.fs no = k := ha
  rw [ha] at HAt
  obtain ⟨hn0, A, c, hv, hc⟩ := row3 (f := rfc) (fun _ => rfl) hI.row
  obtain ⟨g, hg, hcell⟩ := hc k hkl
  subst hg
  obtain ⟨m, hm⟩ : ∃ m, m = s.fs.length := ⟨_, rfl⟩
  obtain ⟨y, hy⟩ : ∃ y, y = s.fs[k] := ⟨_, rfl⟩
  replace hsz : 1048576 < s.fs[k].safe.size + s.fs[k].tail.size + t.size := hsz
  have hkm : k < m := by omega
  rw [← hm] at hv hl
  rw [← hy] at hcell hsz hs2
  have HVv := Lib.hid hv
  have HCell : Hid (∀ V, Below W.heap.size W V → V.cell? ⟨g, k * 3 + 1, none⟩ = some (.string y.safe) ∧ V.cell? ⟨g, k * 3 + 2, none⟩ = some (.string y.tail)) := Lib.hid (fun V hV => ⟨hcell V hV 1 (by decide), hcell V hV 2 (by decide)⟩)
  have hsum : (1048576 : Int) < (y.safe.size : Int) + y.tail.size + t.size := by omega
  have hsum' : decide ((1048576 : Int) < (y.safe.size : Int) + y.tail.size + t.size) = true := decide_eq_true hsum
  have hS1 : y.safe.size ≤ 1048576 := by omega
  have hS2 : y.tail.size ≤ 1048576 := by omega
  clear hbb hxb hI h hbW hW hn hn' ha hts hv hm hc hcell hy hn0
  unfold av
  go_enter Try.func14, Try.ntmps14
  go_upto_region 36 with (go_at_call 25; rw [← HW.out]; refine HAt.out.mono ?_; rintro e w1 ⟨rfl, hb1⟩)
  have d0 := (HBB.out w1 hb1).1
  have d3 := (HBB.out w1 hb1).2.2.2
  have r0 := G.cell_below hb1 HI.out.c0
  rw [HVv.out] at r0
  have e1 := (HCell.out w1 hb1).1
  have e2 := (HCell.out w1 hb1).2
  have hlt1 : rb < w1.heap.size := Nat.lt_of_lt_of_le HI.out.lt hb1.size
  have Hb1 := Lib.hid (HBW.out.trans (belowLe HBW.out.size hb1))
  go_wp2
  go_quiet (fail)
  go_wp2
  go_ret
  exact ⟨rfl, G.bdrewN Hb1.out _⟩
end Go.Proofs.Ytdmjbdecemajpaa.D
