/- The walks of the reference's queue: Get. -/
import Derived.Test.YthmknlflgajnpaaRef4
namespace Go.Proofs.Ythmknlflgajnpaa
open Go.RowKit
def rgetR (s : RS) : Value × Bool := match s.line with
  | [] => (.agg #[.int .i64 0, .string ⟨#[]⟩], false)
  | r :: _ => (rv r, true)
theorem wo_le (l : List Ref) (r : Ref) {n : Nat} (h : l.length ≤ n) : (wo l r).length ≤ n := Nat.le_trans (List.length_filter_le _ _) h
set_option maxRecDepth 100000 in
set_option maxHeartbeats 2000000 in
theorem rget_empty (B rb : Nat) (s : RS) (v : RV) (w : World) (h : RInv B rb s v w) (hl : s.line = []) :
    Calls Try.prog 34 #[.pointer (some ⟨rb, 0, none⟩)] w fun e w' => e = .returned (.tuple #[.agg #[.int .i64 0, .string ⟨#[]⟩], .bool false]) ∧ RStep B rb v w s w' := by
  obtain ⟨A, c, hv⟩ := owns_shape (h.rows 0)
  have hn : s.n 0 = 0 := by simp [RS.n, hl]
  rw [hn] at hv
  have c3 := h.c3
  have hlt := h.lt
  rw [hv] at c3
  have R0 := Lib.hid ((RRun.start h).below (bel_alloc w (.cells #[.int .i64 0, .string ⟨#[]⟩] 30)))
  clear h hl hv hn
  go_enter Try.func34, Try.ntmps34
  go_wp2
  refine bodyPost_ret (results_ct rfl _ _ w.heap.size 30 #[.int .i64 0, .string ⟨#[]⟩] (0, 0) _ rfl (G.heap_new _ _) Try.underlying30 rfl size30) rfl ⟨rfl, R0.out.done⟩
set_option maxRecDepth 100000 in
set_option maxHeartbeats 4000000 in
theorem rget_full (B rb : Nat) (s : RS) (v : RV) (w : World) (h : RInv B rb s v w) (hl : ∀ i, s.n i ≤ 1000000) (r : Ref) (rest : List Ref) (hs : s.line = r :: rest) :
    Calls Try.prog 34 #[.pointer (some ⟨rb, 0, none⟩)] w fun e w' => e = .returned (.tuple #[.agg #[.int .i64 r.kind, .string r.name], .bool true]) ∧ RStep B rb v w { s with line := wo s.line r, marked := wo s.marked r, busy := s.busy ++ [r] } w' := by
  have hx := Row.of_owns (h.rows 0)
  obtain ⟨g, c, hv, hcc⟩ : ∃ g c, v 0 = .slice (some ⟨g, 0, none⟩) (rest.length + 1) c ∧ ∀ j u, (s.line.flatMap rc)[j]? = some u → w.cell? ⟨g, j, none⟩ = some u := by
    rcases hx with ⟨_, h2⟩ | ⟨g, c, h1, _, h3⟩
    · rw [hs] at h2; simp at h2
    · exact ⟨g, c, by rw [h1, hs]; rfl, h3⟩
  have g0 : w.cell? ⟨g, 0, none⟩ = some (.int .i64 r.kind) := hcc 0 _ (by rw [hs]; rfl)
  have g1 : w.cell? ⟨g, 1, none⟩ = some (.string r.name) := hcc 1 _ (by rw [hs]; rfl)
  have hgl := World.block_lt_of_cell? w _ g0
  have hgl : g < w.heap.size := hgl
  have c3 := h.c3
  have hlt := h.lt
  rw [hv] at c3
  obtain ⟨W0, hW0⟩ : ∃ W0, W0 = w.alloc (.cells #[.int .i64 0, .string ⟨#[]⟩] 30) := ⟨_, rfl⟩
  obtain ⟨W, hW⟩ : ∃ W, W = W0.alloc (.cells #[.int .i64 r.kind, .string r.name] 30) := ⟨_, rfl⟩
  have q0 : RRun B rb v w s v W0 := by rw [hW0]; exact (RRun.start h).below (bel_alloc _ _)
  have R1 := Lib.hid (show RRun B rb v w s v W by rw [hW]; exact q0.below (bel_alloc _ _))
  have a0 : RAt rb v W0 w.heap.size (refBox ⟨0, ⟨#[]⟩⟩) := by rw [hW0]; exact RAt.new h _
  have Z1 := Lib.hid (show RAt rb v W w.heap.size (refBox ⟨0, ⟨#[]⟩⟩) by rw [hW]; exact a0.below (bel_alloc _ _))
  have hsz : W0.heap.size = w.heap.size + 1 := by rw [hW0]; simp
  have A1 := Lib.hid (show RAt rb v W (w.heap.size + 1) (refBox r) by rw [hW, ← hsz]; exact RAt.new q0.inv _)
  have HV := Lib.hid hv
  have Hl := Lib.hid hl
  have b0 := A1.out.k
  have b1 := A1.out.nm
  have e3 := R1.out.inv.c3
  have l1 := R1.out.inv.lt
  have C1 : Hid (∀ V, Below W.heap.size W V → Calls Try.prog 13 #[v 0, .agg #[.int .i64 r.kind, .string r.name]] V fun e w' => Wo V s.line r e w') := Lib.hid fun V hb => (R1.out.inv.without r hl V hb).1
  have hWe : W = (w.alloc (.cells #[.int .i64 0, .string ⟨#[]⟩] 30)).alloc (.cells #[.int .i64 r.kind, .string r.name] 30) := by rw [hW, hW0]
  have HWe := Lib.hid hWe
  rw [hv] at e3 C1
  clear h hl hv hcc hx hs hW hW0 hWe q0 a0 hsz
  go_enter Try.func34, Try.ntmps34
  go_upto_region 4 with (fail)
  rw [← HWe.out]
  go_region_with (go_at_call 13; refine (C1.out _ (G.bdrew (Below.refl _ _))).mono ?_; rintro e wa ⟨Aa, ca, rfl, hoa, hba⟩; have e5 := G.cell_below hba (show W.drew.cell? _ = _ from e3); have e6 : wa.frozen? ⟨rb, 3, none⟩ = false := (R1.out.inv.below (G.undraw (n := 1) hba)).free 3; have HOA := Lib.hid hoa; have HBA := Lib.hid (G.undraw (n := 1) hba); clear hoa hba)
  all_goals
    have q := R1.out.inv.new 0 _ { s with line := wo s.line r } HBA.out HOA.out ⟨rfl, rfl, rfl⟩ (fun i hi => by match i with | 0 => exact absurd rfl hi | 1 => exact ⟨rfl, rfl⟩ | 2 => exact ⟨rfl, rfl⟩ | 3 => exact ⟨rfl, rfl⟩ | 4 => exact ⟨rfl, rfl⟩)
    obtain ⟨z2, hz2⟩ : ∃ z2, z2 = wa.setCell ⟨rb, 3, none⟩ (.slice Aa (wo s.line r).length ca) := ⟨_, rfl⟩
    rw [← hz2]
    have q' : RStep B rb v W { s with line := wo s.line r } z2 := by rw [hz2]; exact q
    obtain ⟨v2, r2, t2⟩ := R1.out.step q'
    have R2 := Lib.hid r2
    have A2 := Lib.hid (t2 _ _ A1.out)
    have Z2 := Lib.hid (t2 _ _ Z1.out)
    have f4 := R2.out.inv.c4
    have f0 := A2.out.k
    have f1 := A2.out.nm
    have l2 := R2.out.inv.lt
    have hl2 : ∀ i, ({ s with line := wo s.line r } : RS).n i ≤ 1000000 := fun i => by
      match i with
      | 0 => exact wo_le _ _ (Hl.out 0)
      | 1 => exact Hl.out 1
      | 2 => exact Hl.out 2
      | 3 => exact Hl.out 3
      | 4 => exact Hl.out 4
    have C2 : Hid (∀ V, Below z2.heap.size z2 V → Calls Try.prog 13 #[v2 1, .agg #[.int .i64 r.kind, .string r.name]] V fun e w' => Wo V s.marked r e w') := Lib.hid fun V hb => (R2.out.inv.without r hl2 V hb).2.1
    clear q q' r2 t2 hz2 e3 b0 b1 e5 e6 l1 hl2 c3 g0 g1
    go_upto_region 5 with (fail)
    go_region_with (go_at_call 13; refine (C2.out _ (G.bdrew (Below.refl _ _))).mono ?_; rintro e wb ⟨Ab, cb, rfl, hob, hbb⟩; have e5 := G.cell_below hbb (show z2.drew.cell? _ = _ from f4); have e6 : wb.frozen? ⟨rb, 4, none⟩ = false := (R2.out.inv.below (G.undraw (n := 1) hbb)).free 4; have HOB := Lib.hid hob; have HBB := Lib.hid (G.undraw (n := 1) hbb); clear hob hbb)
    all_goals
      have q := R2.out.inv.new 1 _ { s with line := wo s.line r, marked := wo s.marked r } HBB.out HOB.out ⟨rfl, rfl, rfl⟩ (fun i hi => by match i with | 0 => exact ⟨rfl, rfl⟩ | 1 => exact absurd rfl hi | 2 => exact ⟨rfl, rfl⟩ | 3 => exact ⟨rfl, rfl⟩ | 4 => exact ⟨rfl, rfl⟩)
      obtain ⟨z3, hz3⟩ : ∃ z3, z3 = wb.setCell ⟨rb, 4, none⟩ (.slice Ab (wo s.marked r).length cb) := ⟨_, rfl⟩
      rw [← hz3]
      have q' : RStep B rb v2 z2 { s with line := wo s.line r, marked := wo s.marked r } z3 := by rw [hz3]; exact q
      obtain ⟨v3, r3, t3⟩ := R2.out.step q'
      have R3 := Lib.hid r3
      have A3 := Lib.hid (t3 _ _ A2.out)
      have Z3 := Lib.hid (t3 _ _ Z2.out)
      obtain ⟨gg, cg, z4, r1, p1, p2, p3⟩ := R3.out.inv.app 2 (rc r) rfl (rc_one _) (Hl.out 2) 28 { s with line := wo s.line r, marked := wo s.marked r, busy := s.busy ++ [r] } ⟨rfl, rfl, rfl⟩ (fun i hi => by match i with | 0 => exact ⟨rfl, rfl⟩ | 1 => exact ⟨rfl, rfl⟩ | 2 => exact absurd rfl hi | 3 => exact ⟨rfl, rfl⟩ | 4 => exact ⟨rfl, rfl⟩) ⟨by simp [RS.n], by simp [RS.xs]⟩
      have m1 : (Builtin.append_ #[28, 28] 28 #[v3 2, .slice (some ⟨z3.heap.size, 0, none⟩) 1 1]).run Try.prog (z3.alloc (.cells #[.int .i64 r.kind, .string r.name] 30)).drew = .ok (.slice (some ⟨gg, 0, none⟩) (s.n 2 + 1) cg) z4 := r1
      have p1' : z4.cell? ⟨rb, 5, none⟩ = some (v3 2) := p1
      have p2' : z4.frozen? ⟨rb, 5, none⟩ = false := p2
      have e5' := R3.out.inv.c5
      have h0 := A3.out.k
      have h1 := A3.out.nm
      have l3 := R3.out.inv.lt
      have l3' := A3.out.lt
      have M2 := Lib.hid m1
      have P4 : Hid (RStep B rb v3 z3 { s with line := wo s.line r, marked := wo s.marked r, busy := s.busy ++ [r] } (z4.setCell ⟨rb, 5, none⟩ (.slice (some ⟨gg, 0, none⟩) (s.n 2 + 1) cg))) := Lib.hid p3
      clear r1 p1 p2 p3 m1 q q' r3 t3 hz3 f0 f1 f4 e5 e6
      go_upto_region 6 with (fail)
      go_region_law (refine step_append_run rfl (.tmp 40) (.tmp 42) 28 rfl rfl rfl M2.out ?_)
      all_goals
        obtain ⟨z5, hz5⟩ : ∃ z5, z5 = z4.setCell ⟨rb, 5, none⟩ (.slice (some ⟨gg, 0, none⟩) (s.n 2 + 1) cg) := ⟨_, rfl⟩
        rw [← hz5]
        have q' := P4.out
        rw [← hz5] at q'
        obtain ⟨v5, r5, t5⟩ := R3.out.step q'
        have R5 := Lib.hid r5
        have A5 := Lib.hid (t5 _ _ A3.out)
        have Z5 := Lib.hid (t5 _ _ Z3.out)
        have y0 := A5.out.k
        have y1 := A5.out.nm
        have y2 := Z5.out.k
        have y3 := Z5.out.nm
        have y4 : ∀ i, z5.frozen? ⟨w.heap.size, i, none⟩ = false := fun i => by simp [World.frozen?, Z5.out.is]
        have y5 := y4 0
        have y6 := y4 1
        clear q' r5 t5 hz5 y4 h0 h1 e5' l3 l3' p1' p2'
        go_wp2
        refine bodyPost_ret (results_ct rfl _ _ w.heap.size 30 #[.int .i64 r.kind, .string r.name] (0, 0) _ rfl ?_ Try.underlying30 rfl size30) rfl ⟨rfl, ?_⟩
        · rw [heap_setCell_same _ _ _ _ _ _ (heap_setCell_same _ _ _ _ _ _ Z5.out.is)]; rfl
        · have hfr : Fr (fun j => j = w.heap.size) z5 _ := (fr_set (F := fun j => j = w.heap.size) z5 w.heap.size 0 (.int .i64 r.kind) rfl).trans (F := fun j => j = w.heap.size) (fr_set (F := fun j => j = w.heap.size) _ w.heap.size 1 (.string r.name) rfl) (fun _ hj => .inl hj)
          refine ⟨v5, R5.out.inv.keep fun j hj => ?_, R5.out.foot, R5.out.fr.trans (F := RFoot rb v) hfr (fun j hj => .inr (by omega))⟩
          have hne : j ≠ w.heap.size := fun e => Z5.out.off (e ▸ hj)
          exact hfr.block j (R5.out.inv.foot_lt hj) hne
theorem rget_any (B rb : Nat) (s : RS) (v : RV) (w : World) (h : RInv B rb s v w) (hl : ∀ i, s.n i ≤ 1000000) :
    Calls Try.prog 34 #[.pointer (some ⟨rb, 0, none⟩)] w fun e w' => e = .returned (.tuple #[(rgetR s).1, .bool (rgetR s).2]) ∧ RStep B rb v w (rgetS s) w' := by
  rcases hs : s.line with _ | ⟨r, rest⟩
  · have h1 : rgetR s = (.agg #[.int .i64 0, .string ⟨#[]⟩], false) := by simp only [rgetR, hs]
    have h2 : rgetS s = s := by simp only [rgetS, hs]
    rw [h1, h2]
    exact rget_empty B rb s v w h hs
  · have h1 : rgetR s = (rv r, true) := by simp only [rgetR, hs]
    have h2 : rgetS s = { s with line := wo s.line r, marked := wo s.marked r, busy := s.busy ++ [r] } := by simp only [rgetS, hs]
    rw [h1, h2]
    exact rget_full B rb s v w h hl r rest hs
end Go.Proofs.Ythmknlflgajnpaa
