/- The walks of the reference's queue: Add. -/
import Derived.Test.YthmknlflgajnpaaRef1
namespace Go.Proofs.Ythmknlflgajnpaa
open Go.RowKit
theorem sees3 {w4 W w' : World} {a b c : Addr} {x y z : Value} (h : Below w4.heap.size w4 W ∧ W.cell? a = some x ∧ W.cell? b = some y ∧ W.cell? c = some z) (hb : Below W.heap.size W w') : Below w4.heap.size w4 w' ∧ w'.cell? a = some x ∧ w'.cell? b = some y ∧ w'.cell? c = some z :=
  ⟨G.bthen h.1 hb, G.cell_below hb h.2.1, G.cell_below hb h.2.2.1, G.cell_below hb h.2.2.2⟩
theorem hold4 {p : Prop} {w4 W : World} {a b c : Addr} {x y z : Value} (h : Below w4.heap.size w4 W ∧ W.cell? a = some x ∧ W.cell? b = some y ∧ W.cell? c = some z) (k : Hid (Below w4.heap.size w4 W) → W.cell? a = some x → W.cell? b = some y → W.cell? c = some z → p) : p := k (Lib.hid h.1) h.2.1 h.2.2.1 h.2.2.2
/-- a cell of a block that is none of the queue's -/
theorem fr_cell {F : Nat → Prop} {w w1 : World} (h : Fr F w w1) {a : Addr} {x : Value} (hF : ¬ F a.block) (hc : w.cell? a = some x) : w1.cell? a = some x := by
  have := World.block_lt_of_cell? w a hc
  rw [World.cell?_of_block (h.block _ this hF)]; exact hc
theorem RStep.next {B rb : Nat} {s2 : RS} {v v2 : RV} {w z wa w2 : World} (h2 : ∀ j, RFoot rb v2 j → RFoot rb v j ∨ w.heap.size ≤ j) (h3 : Fr (RFoot rb v) w z) (hb : Below z.heap.size z wa) (k : RStep B rb v2 wa s2 w2) : RStep B rb v w s2 w2 := by
  obtain ⟨v3, k1, k2, k3⟩ := k
  have h4 := h3.trans (F := RFoot rb v) (Fr.of_below (F := RFoot rb v) hb) (fun _ hj => .inl hj)
  refine ⟨v3, k1, fun j hj => ?_, h4.trans k3 (fun j hj => h2 j hj)⟩
  rcases k2 j hj with h5 | h5
  · exact h2 j h5
  · exact .inr (Nat.le_trans h4.size h5)
theorem hold3 {p : Prop} {w4 W : World} {a b c : Addr} {x y z : Value} (h : Below w4.heap.size w4 W ∧ W.cell? a = some x ∧ W.cell? b = some y ∧ W.cell? c = some z) (k : Hid (Below w4.heap.size w4 W) → p) : p := k (Lib.hid h.1)
def raddS (s : RS) (r : Ref) : RS :=
  if r ∈ s.marked then s else if r ∈ s.busy then { s with marked := s.marked ++ [r] } else { s with marked := s.marked ++ [r], line := s.line ++ [r] }
set_option maxRecDepth 100000 in
set_option maxHeartbeats 2000000 in
theorem radd_any (B rb : Nat) (s : RS) (v : RV) (r : Ref) (w : World) (h : RInv B rb s v w) (hl : ∀ i, s.n i ≤ 1000000) :
    Calls Try.prog 30 #[.pointer (some ⟨rb, 0, none⟩), rv r] w fun e w' => e = .returned (.tuple #[]) ∧ RStep B rb v w (raddS s r) w' := by
  obtain ⟨k, nm⟩ := r
  obtain ⟨W, hW⟩ : ∃ W, W = w.alloc (.cells #[.int .i64 k, .string nm] 30) := ⟨_, rfl⟩
  have hbW : Below w.heap.size w W := by rw [hW]; exact bel_alloc _ _
  have hI := h.below hbW
  have c4 := hI.c4
  have b0 : W.cell? ⟨w.heap.size, 0, none⟩ = some (.int .i64 k) := by rw [hW, World.cell?_alloc_new]; rfl
  have b1 : W.cell? ⟨w.heap.size, 1, none⟩ = some (.string nm) := by rw [hW, World.cell?_alloc_new]; rfl
  have hlt := hI.lt
  have C1 : Hid (∀ V, Below W.heap.size W V → Calls Try.prog 10 #[v 1, .agg #[.int .i64 k, .string nm]] V fun e w' => e = .returned (.bool (decide (⟨k, nm⟩ ∈ s.marked))) ∧ Below V.heap.size V w') := Lib.hid fun V hb =>
    has_any (v 1) s.marked ⟨k, nm⟩ V (Row.of_owns ((hI.below hb).rows 1)) (hl 1)
  have C2 : Hid (∀ V v2, RInv B rb { s with marked := s.marked ++ [⟨k, nm⟩] } v2 V → Calls Try.prog 10 #[v2 2, .agg #[.int .i64 k, .string nm]] V fun e w' => e = .returned (.bool (decide (⟨k, nm⟩ ∈ s.busy))) ∧ Below V.heap.size V w') := Lib.hid fun V v2 hV =>
    has_any (v2 2) s.busy ⟨k, nm⟩ V (Row.of_owns (hV.rows 2)) (hl 2)
  have HV := Lib.hid h
  have HI := Lib.hid hI
  have HW := Lib.hid hW
  have Hb := Lib.hid hbW
  have Hl := Lib.hid hl
  unfold rv
  rw [hW] at c4 b0 b1 hlt
  have hb2 : Below W.heap.size W (w.alloc (.cells #[.int .i64 k, .string nm] 30)) := by rw [hW]; exact Below.refl _ _
  clear hI hW hbW h hl
  by_cases hm : (⟨k, nm⟩ : Ref) ∈ s.marked
  · have D1 := Lib.hid (decide_eq_true hm)
    have Ha := Lib.hid (show raddS s ⟨k, nm⟩ = s from if_pos hm)
    clear hm
    rw [D1.out] at C1
    go_enter Try.func30, Try.ntmps30
    go_wp2_with (fail)
    go_region_held3 (fun V => Below W.heap.size W V ∧ V.cell? ⟨rb, 4, none⟩ = some (v 1) ∧ V.cell? ⟨w.heap.size, 0, none⟩ = some (.int .i64 k) ∧ V.cell? ⟨w.heap.size, 1, none⟩ = some (.string nm)) (first | assumption | exact ⟨G.bdrew hb2, c4, b0, b1⟩ | exact sees3 (by assumption) (by assumption)) (first | (go_at_call 10; refine (C1.out _ (And.left ‹_ ∧ _›)).mono ?_; rintro e w' ⟨rfl, hb'⟩))
    all_goals
      refine hold3 (by assumption) (fun HB9 => ?_)
      go_wp2
      refine bodyPost_ret (results_none rfl _ _ _) rfl ⟨rfl, ?_⟩
      rw [Ha.out]
      exact RStep.of (HI.out.below HB9.out) (Fr.of_below (G.bthen Hb.out HB9.out))
  · have D1 := Lib.hid (decide_eq_false hm)
    have Hm := Lib.hid hm
    clear hm
    rw [D1.out] at C1
    go_enter Try.func30, Try.ntmps30
    go_wp2_with (fail)
    go_region_held3 (fun V => Below W.heap.size W V ∧ V.cell? ⟨rb, 4, none⟩ = some (v 1) ∧ V.cell? ⟨w.heap.size, 0, none⟩ = some (.int .i64 k) ∧ V.cell? ⟨w.heap.size, 1, none⟩ = some (.string nm)) (first | assumption | exact ⟨G.bdrew hb2, c4, b0, b1⟩ | exact sees3 (by assumption) (by assumption)) (first | (go_at_call 10; refine (C1.out _ (And.left ‹_ ∧ _›)).mono ?_; rintro e w9 ⟨rfl, hb'⟩))
    refine hold4 (by assumption) (fun HB9 e4 d0 d1 => ?_)
    rename_i hh
    clear hh
    have hI9 := HI.out.below HB9.out
    have nb : ¬ RFoot rb v w.heap.size := fun hf => Nat.lt_irrefl _ (HV.out.foot_lt hf)
    obtain ⟨g1, c1, z1, r1, p1, p2, p3⟩ := hI9.app 1 (rc ⟨k, nm⟩) rfl (rc_one _) (Hl.out 1) 28 { s with marked := s.marked ++ [⟨k, nm⟩] } ⟨rfl, rfl, rfl⟩ (fun i hi => by match i with | 0 => exact ⟨rfl, rfl⟩ | 1 => exact absurd rfl hi | 2 => exact ⟨rfl, rfl⟩ | 3 => exact ⟨rfl, rfl⟩ | 4 => exact ⟨rfl, rfl⟩) ⟨by simp [RS.n], by simp [RS.xs]⟩
    have m1 : (Builtin.append_ #[28, 28] 28 #[v 1, .slice (some ⟨w9.heap.size, 0, none⟩) 1 1]).run Try.prog (w9.alloc (.cells #[.int .i64 k, .string nm] 30)).drew = .ok (.slice (some ⟨g1, 0, none⟩) (s.n 1 + 1) c1) z1 := r1
    have p1' : z1.cell? ⟨rb, 4, none⟩ = some (v 1) := p1
    have p2' : z1.frozen? ⟨rb, 4, none⟩ = false := p2
    have l9 := hI9.lt
    have l9' : w.heap.size < w9.heap.size := World.block_lt_of_cell? w9 _ d0
    have M1 := Lib.hid m1
    have P3 : Hid (RStep B rb v w9 { s with marked := s.marked ++ [⟨k, nm⟩] } (z1.setCell ⟨rb, 4, none⟩ (.slice (some ⟨g1, 0, none⟩) (s.n 1 + 1) c1))) := Lib.hid p3
    have D0 := Lib.hid d0
    have D2 := Lib.hid d1
    have NB := Lib.hid nb
    clear r1 p1 p2 p3 m1 hI9 nb c4 b0 b1 hlt hb2
    go_wp2_with (fail)
    go_region_law (refine step_append_run rfl (.tmp 14) (.tmp 16) 28 rfl rfl rfl M1.out ?_)
    all_goals
      go_wp2_with (fail)
      obtain ⟨z2, hz2⟩ : ∃ z2, z2 = z1.setCell ⟨rb, 4, none⟩ (.slice (some ⟨g1, 0, none⟩) (s.n 1 + 1) c1) := ⟨_, rfl⟩
      rw [← hz2]
      have q := P3.out
      rw [← hz2] at q
      obtain ⟨v2, q1, q2, q3⟩ := q
      have f0 := fr_cell q3 NB.out D0.out
      have f1 := fr_cell q3 NB.out D2.out
      have f5 := q1.c5
      have Q1 := Lib.hid q1
      have Q2 := Lib.hid q2
      have Q3 := Lib.hid q3
      clear hz2 q1 q2 q3 p1' p2' e4 d0 d1 l9 l9'
      by_cases hb : (⟨k, nm⟩ : Ref) ∈ s.busy
      · have E1 := Lib.hid (decide_eq_true hb)
        have Ha := Lib.hid (show raddS s ⟨k, nm⟩ = { s with marked := s.marked ++ [⟨k, nm⟩] } by unfold raddS; rw [if_neg Hm.out, if_pos hb])
        clear hb
        rw [E1.out] at C2
        go_region_held3 (fun V => Below z2.heap.size z2 V ∧ V.cell? ⟨rb, 5, none⟩ = some (v2 2) ∧ V.cell? ⟨w.heap.size, 0, none⟩ = some (.int .i64 k) ∧ V.cell? ⟨w.heap.size, 1, none⟩ = some (.string nm)) (first | assumption | exact ⟨G.bdrew (Below.refl _ _), f5, f0, f1⟩ | exact sees3 (by assumption) (by assumption)) (first | (go_at_call 10; refine (C2.out _ v2 (Q1.out.below (And.left ‹_ ∧ _›))).mono ?_; rintro e w' ⟨rfl, hb'⟩))
        all_goals
          refine hold3 (by assumption) (fun HBA => ?_)
          go_wp2
          refine bodyPost_end (results_none rfl _ _ _) rfl ⟨rfl, ?_⟩
          rw [Ha.out]
          exact RStep.from' ((Fr.of_below Hb.out).trans (Fr.of_below HB9.out) (fun _ hj => .inl hj)) ⟨v2, Q1.out.below HBA.out, Q2.out, Q3.out.trans (Fr.of_below (F := RFoot rb v) HBA.out) (fun _ hj => .inl hj)⟩
      · have E1 := Lib.hid (decide_eq_false hb)
        have Ha := Lib.hid (show raddS s ⟨k, nm⟩ = { s with marked := s.marked ++ [⟨k, nm⟩], line := s.line ++ [⟨k, nm⟩] } by unfold raddS; rw [if_neg Hm.out, if_neg hb])
        clear hb
        rw [E1.out] at C2
        go_region_held3 (fun V => Below z2.heap.size z2 V ∧ V.cell? ⟨rb, 5, none⟩ = some (v2 2) ∧ V.cell? ⟨w.heap.size, 0, none⟩ = some (.int .i64 k) ∧ V.cell? ⟨w.heap.size, 1, none⟩ = some (.string nm)) (first | assumption | exact ⟨G.bdrew (Below.refl _ _), f5, f0, f1⟩ | exact sees3 (by assumption) (by assumption)) (first | (go_at_call 10; refine (C2.out _ v2 (Q1.out.below (And.left ‹_ ∧ _›))).mono ?_; rintro e wa ⟨rfl, hb'⟩))
        refine hold4 (by assumption) (fun HBA e5 g0 g1 => ?_)
        rename_i hh
        clear hh
        have hIA := Q1.out.below HBA.out
        obtain ⟨g2, c2, z3, r1, p1, p2, p3⟩ := hIA.app 0 (rc ⟨k, nm⟩) rfl (rc_one _) (Hl.out 0) 28 { s with marked := s.marked ++ [⟨k, nm⟩], line := s.line ++ [⟨k, nm⟩] } ⟨rfl, rfl, rfl⟩ (fun i hi => by match i with | 0 => exact absurd rfl hi | 1 => exact ⟨rfl, rfl⟩ | 2 => exact ⟨rfl, rfl⟩ | 3 => exact ⟨rfl, rfl⟩ | 4 => exact ⟨rfl, rfl⟩) ⟨by simp [RS.n], by simp [RS.xs]⟩
        have m1 : (Builtin.append_ #[28, 28] 28 #[v2 0, .slice (some ⟨wa.heap.size, 0, none⟩) 1 1]).run Try.prog (wa.alloc (.cells #[.int .i64 k, .string nm] 30)).drew = .ok (.slice (some ⟨g2, 0, none⟩) (s.n 0 + 1) c2) z3 := r1
        have p1' : z3.cell? ⟨rb, 3, none⟩ = some (v2 0) := p1
        have p2' : z3.frozen? ⟨rb, 3, none⟩ = false := p2
        have e3 := hIA.c3
        have l9 := hIA.lt
        have l9' : w.heap.size < wa.heap.size := World.block_lt_of_cell? wa _ g0
        have M2 := Lib.hid m1
        have P4 : Hid (RStep B rb v2 wa { s with marked := s.marked ++ [⟨k, nm⟩], line := s.line ++ [⟨k, nm⟩] } (z3.setCell ⟨rb, 3, none⟩ (.slice (some ⟨g2, 0, none⟩) (s.n 0 + 1) c2))) := Lib.hid p3
        clear r1 p1 p2 p3 m1 hIA f0 f1 f5
        go_wp2_with (fail)
        go_region_law (refine step_append_run rfl (.tmp 31) (.tmp 33) 28 rfl rfl rfl M2.out ?_)
        all_goals
          go_wp2
          refine bodyPost_end (results_none rfl _ _ _) rfl ⟨rfl, ?_⟩
          rw [Ha.out]
          refine RStep.from' ((Fr.of_below Hb.out).trans (Fr.of_below HB9.out) (fun _ hj => .inl hj)) ?_
          exact RStep.next Q2.out Q3.out HBA.out P4.out
end Go.Proofs.Ythmknlflgajnpaa
