/- The walks of the reference's queue: Done. -/
import Derived.Test.YthmknlflgajnpaaRef3
namespace Go.Proofs.Ythmknlflgajnpaa
open Go.RowKit
set_option maxRecDepth 100000 in
set_option maxHeartbeats 2000000 in
theorem rdone_any (B rb : Nat) (s : RS) (v : RV) (r : Ref) (w : World) (h : RInv B rb s v w) (hl : ∀ i, s.n i ≤ 1000000) :
    Calls Try.prog 35 #[.pointer (some ⟨rb, 0, none⟩), rv r] w fun e w' => e = .returned (.tuple #[]) ∧ RStep B rb v w (rdoneS s r) w' := by
  obtain ⟨W, hW⟩ : ∃ W, W = w.alloc (.cells #[.int .i64 r.kind, .string r.name] 30) := ⟨_, rfl⟩
  have hbW : Below w.heap.size w W := by rw [hW]; exact bel_alloc _ _
  have R0 := Lib.hid ((RRun.start h).below hbW)
  have A0 : Hid (RAt rb v W w.heap.size (refBox r)) := Lib.hid (by rw [hW]; exact RAt.new h _)
  have c5 := R0.out.inv.c5
  have b0 := A0.out.k
  have b1 := A0.out.nm
  have hlt := R0.out.inv.lt
  have C1 : Hid (∀ V, Below W.heap.size W V → Calls Try.prog 10 #[v 2, .agg #[.int .i64 r.kind, .string r.name]] V fun e w' => e = .returned (.bool (decide (r ∈ s.busy))) ∧ Below V.heap.size V w') := Lib.hid fun V hb => (R0.out.inv.has r hl V hb).2.2
  have HW := Lib.hid hW
  have Hl := Lib.hid hl
  have hb2 : Below W.heap.size W (w.alloc (.cells #[.int .i64 r.kind, .string r.name] 30)) := by rw [hW]; exact Below.refl _ _
  unfold rv
  rw [hW] at c5 b0 b1 hlt
  clear hW hbW h hl
  by_cases hm : r ∈ s.busy
  · have D1 := Lib.hid (decide_eq_true hm)
    have Hm := Lib.hid hm
    clear hm
    rw [D1.out] at C1
    go_enter Try.func35, Try.ntmps35
    go_wp2_with (fail)
    go_region_held3 (fun V => Below W.heap.size W V ∧ V.cell? ⟨rb, 5, none⟩ = some (v 2) ∧ V.cell? ⟨w.heap.size, 0, none⟩ = some (.int .i64 r.kind) ∧ V.cell? ⟨w.heap.size, 1, none⟩ = some (.string r.name)) (first | assumption | exact ⟨G.bdrew hb2, c5, b0, b1⟩ | exact sees3 (by assumption) (by assumption)) (first | (go_at_call 10; refine (C1.out _ (And.left ‹_ ∧ _›)).mono ?_; rintro e w9 ⟨rfl, hb'⟩))
    refine hold4 (by assumption) (fun HB9 e4 d0 d1 => ?_)
    rename_i hh
    clear hh c5 b0 b1 hlt hb2
    have R9 := Lib.hid (R0.out.below HB9.out)
    have A9 := Lib.hid (A0.out.below HB9.out)
    have C2 : Hid (∀ V, Below w9.heap.size w9 V → Calls Try.prog 13 #[v 2, .agg #[.int .i64 r.kind, .string r.name]] V fun e w' => Wo V s.busy r e w') := Lib.hid fun V hb => (R9.out.inv.without r Hl.out V hb).2.2
    have l9 := R9.out.inv.lt
    go_wp2_with (fail)
    go_region_with (go_at_call 13; refine (C2.out _ (G.bdrew (Below.refl _ _))).mono ?_; rintro e wa ⟨Aa, ca, rfl, hoa, hba⟩; have e5 := G.cell_below hba (show w9.drew.cell? _ = _ from e4); have e6 : wa.frozen? ⟨rb, 5, none⟩ = false := (R9.out.inv.below (G.undraw (n := 1) hba)).free 5; have HOA := Lib.hid hoa; have HBA := Lib.hid (G.undraw (n := 1) hba); clear hoa hba)
    all_goals
      have q := R9.out.inv.new 2 _ { s with busy := wo s.busy r } HBA.out HOA.out ⟨rfl, rfl, rfl⟩ (fun i hi => by match i with | 0 => exact ⟨rfl, rfl⟩ | 1 => exact ⟨rfl, rfl⟩ | 2 => exact absurd rfl hi | 3 => exact ⟨rfl, rfl⟩ | 4 => exact ⟨rfl, rfl⟩)
      obtain ⟨z2, hz2⟩ : ∃ z2, z2 = wa.setCell ⟨rb, 5, none⟩ (.slice Aa (wo s.busy r).length ca) := ⟨_, rfl⟩
      rw [← hz2]
      have q' : RStep B rb v w9 { s with busy := wo s.busy r } z2 := by rw [hz2]; exact q
      obtain ⟨v2, r2, t2⟩ := R9.out.step q'
      have R2 := Lib.hid r2
      have A2 := Lib.hid (t2 _ _ A9.out)
      have f4 := R2.out.inv.c4
      have f0 := A2.out.k
      have f1 := A2.out.nm
      have hl2 : ∀ i, ({ s with busy := wo s.busy r } : RS).n i ≤ 1000000 := fun i => by
        match i with
        | 0 => exact Hl.out 0
        | 1 => exact Hl.out 1
        | 2 => exact Nat.le_trans (List.length_filter_le _ _) (Hl.out 2)
        | 3 => exact Hl.out 3
        | 4 => exact Hl.out 4
      have Hl2 := Lib.hid hl2
      have C3 : Hid (∀ V, Below z2.heap.size z2 V → Calls Try.prog 10 #[v2 1, .agg #[.int .i64 r.kind, .string r.name]] V fun e w' => e = .returned (.bool (decide (r ∈ s.marked))) ∧ Below V.heap.size V w') := Lib.hid fun V hb => (R2.out.inv.has r hl2 V hb).2.1
      clear q q' r2 t2 hz2 e4 d0 d1 e5 e6 l9 hl2
      by_cases hk : r ∈ s.marked
      · have D2 := Lib.hid (decide_eq_true hk)
        have Ha := Lib.hid (show rdoneS s r = { s with busy := wo s.busy r, line := s.line ++ [r] } by unfold rdoneS; rw [if_pos Hm.out, if_pos hk])
        clear hk
        rw [D2.out] at C3
        go_wp2_with (fail)
        go_region_held3 (fun V => Below z2.heap.size z2 V ∧ V.cell? ⟨rb, 4, none⟩ = some (v2 1) ∧ V.cell? ⟨w.heap.size, 0, none⟩ = some (.int .i64 r.kind) ∧ V.cell? ⟨w.heap.size, 1, none⟩ = some (.string r.name)) (first | assumption | exact ⟨G.bdrew (Below.refl _ _), f4, f0, f1⟩ | exact sees3 (by assumption) (by assumption)) (first | (go_at_call 10; refine (C3.out _ (And.left ‹_ ∧ _›)).mono ?_; rintro e wb ⟨rfl, hb'⟩))
        refine hold4 (by assumption) (fun HBB g4 g0 g1 => ?_)
        rename_i hh
        clear hh f4 f0 f1
        have R3 := Lib.hid (R2.out.below HBB.out)
        have A3 := Lib.hid (A2.out.below HBB.out)
        obtain ⟨gg, cg, z3, r1, p1, p2, p3⟩ := R3.out.inv.app 0 (rc r) rfl (rc_one _) (Hl2.out 0) 28 { s with busy := wo s.busy r, line := s.line ++ [r] } ⟨rfl, rfl, rfl⟩ (fun i hi => by match i with | 0 => exact absurd rfl hi | 1 => exact ⟨rfl, rfl⟩ | 2 => exact ⟨rfl, rfl⟩ | 3 => exact ⟨rfl, rfl⟩ | 4 => exact ⟨rfl, rfl⟩) ⟨by simp [RS.n], by simp [RS.xs]⟩
        have m1 : (Builtin.append_ #[28, 28] 28 #[v2 0, .slice (some ⟨wb.heap.size, 0, none⟩) 1 1]).run Try.prog (wb.alloc (.cells #[.int .i64 r.kind, .string r.name] 30)).drew = .ok (.slice (some ⟨gg, 0, none⟩) (s.n 0 + 1) cg) z3 := r1
        have p1' : z3.cell? ⟨rb, 3, none⟩ = some (v2 0) := p1
        have p2' : z3.frozen? ⟨rb, 3, none⟩ = false := p2
        have e3 := R3.out.inv.c3
        have l9 := R3.out.inv.lt
        have l9' := A3.out.lt
        have M2 := Lib.hid m1
        have P4 : Hid (RStep B rb v2 wb { s with busy := wo s.busy r, line := s.line ++ [r] } (z3.setCell ⟨rb, 3, none⟩ (.slice (some ⟨gg, 0, none⟩) (s.n 0 + 1) cg))) := Lib.hid p3
        clear r1 p1 p2 p3 m1 g4
        go_wp2_with (fail)
        go_region_law (refine step_append_run rfl (.tmp 30) (.tmp 32) 28 rfl rfl rfl M2.out ?_)
        all_goals
          go_wp2
          refine bodyPost_end (results_none rfl _ _ _) rfl ⟨rfl, ?_⟩
          rw [Ha.out]
          obtain ⟨v4, r4, _⟩ := R3.out.step P4.out
          exact r4.done
      · have D2 := Lib.hid (decide_eq_false hk)
        have Ha := Lib.hid (show rdoneS s r = { s with busy := wo s.busy r } by unfold rdoneS; rw [if_pos Hm.out, if_neg hk])
        clear hk
        rw [D2.out] at C3
        go_wp2_with (fail)
        go_region_held3 (fun V => Below z2.heap.size z2 V ∧ V.cell? ⟨rb, 4, none⟩ = some (v2 1) ∧ V.cell? ⟨w.heap.size, 0, none⟩ = some (.int .i64 r.kind) ∧ V.cell? ⟨w.heap.size, 1, none⟩ = some (.string r.name)) (first | assumption | exact ⟨G.bdrew (Below.refl _ _), f4, f0, f1⟩ | exact sees3 (by assumption) (by assumption)) (first | (go_at_call 10; refine (C3.out _ (And.left ‹_ ∧ _›)).mono ?_; rintro e wb ⟨rfl, hb'⟩))
        refine hold3 (by assumption) (fun HBB => ?_)
        go_wp2
        refine bodyPost_end (results_none rfl _ _ _) rfl ⟨rfl, ?_⟩
        rw [Ha.out]
        exact (R2.out.below HBB.out).done
  · have D1 := Lib.hid (decide_eq_false hm)
    have Ha := Lib.hid (show rdoneS s r = s from if_neg hm)
    clear hm
    rw [D1.out] at C1
    go_enter Try.func35, Try.ntmps35
    go_wp2_with (fail)
    go_region_held3 (fun V => Below W.heap.size W V ∧ V.cell? ⟨rb, 5, none⟩ = some (v 2) ∧ V.cell? ⟨w.heap.size, 0, none⟩ = some (.int .i64 r.kind) ∧ V.cell? ⟨w.heap.size, 1, none⟩ = some (.string r.name)) (first | assumption | exact ⟨G.bdrew hb2, c5, b0, b1⟩ | exact sees3 (by assumption) (by assumption)) (first | (go_at_call 10; refine (C1.out _ (And.left ‹_ ∧ _›)).mono ?_; rintro e w9 ⟨rfl, hb'⟩))
    all_goals
      refine hold3 (by assumption) (fun HB9 => ?_)
      go_wp2
      refine bodyPost_ret (results_none rfl _ _ _) rfl ⟨rfl, ?_⟩
      rw [Ha.out]
      exact (R0.out.below HB9.out).done
end Go.Proofs.Ythmknlflgajnpaa
