/- The queue's Again: a delay that doubles with each failure. -/
import Derived.Test.YthmknlflgajnpaaHp9
import Derived.Test.YthmknlflgajnpaaRef9
import Derived.Test.YthmknlflgajnpaaEnt
import Derived.Deep.CutRange
import Derived.Deep.CutBlock
namespace Go.Proofs.Ythmknlflgajnpaa
set_option linter.unusedVariables false
set_option linter.unusedSimpArgs false
open Go.RowKit
def againF (s : St) (r : Ref) : St := { s with mp := fun j => if j = 3 then M.put (s.mp 3) r (num (s.mp 3) r + 1) else s.mp j }
def againQ (s : St) (r : Ref) : St := afterS (againF s r) r (rdelay s.base s.most (num (s.mp 3) r))
theorem pow_mono2 {a b : Nat} (h : a ≤ b) : (2 : Int) ^ a ≤ 2 ^ b := by
  have h1 : (2 : Nat) ^ a ≤ 2 ^ b := Nat.pow_le_pow_right (by decide) h
  have e1 : ((2 ^ a : Nat) : Int) = (2 : Int) ^ a := by simp
  have e2 : ((2 ^ b : Nat) : Int) = (2 : Int) ^ b := by simp
  omega
theorem mul_pow_mono {b : Int} (hb : 0 ≤ b) {k n : Nat} (h : k ≤ n) : b * 2 ^ k ≤ b * 2 ^ n := Int.mul_le_mul_of_nonneg_left (pow_mono2 h) hb
theorem dbl_lt {b D most : Int} {k : Nat} (hb : 1 ≤ b) (hD : D = b * 2 ^ k) (hm : most ≤ 1048576) (h : D < most) : k < 20 := by
  by_cases hk : k < 20
  · exact hk
  · have h1 := mul_pow_mono (b := b) (by omega) (show 20 ≤ k by omega)
    rw [← hD] at h1
    rw [show (2 : Int) ^ 20 = 1048576 by decide] at h1
    omega
/-- where the doubling stops -/
theorem stop_at {b most f D : Int} {k : Nat} (hb : 1 ≤ b) (hbm : b ≤ most) (hm : most ≤ 1048576) (hf : 0 ≤ f) (hD : D = b * 2 ^ k) (hk : (k : Int) ≤ f) (h : ¬ ((k : Int) < f ∧ D < most)) (hk2 : k ≤ 20) : min D most = rdelay b most f := by
  unfold rdelay
  by_cases hkf : (k : Int) < f
  · have hle : most ≤ D := by omega
    have h1 := mul_pow_mono (b := b) (by omega) (show k ≤ min f.toNat 30 by omega)
    rw [← hD] at h1
    split <;> omega
  · have e : min f.toNat 30 = k := by omega
    rw [e, ← hD]
    split <;> omega
def AgC (qb : Nat) (d : QD) (x : Nat) (k : Int) (nm : ByteArray) (V : World) : Prop := V.cell? ⟨qb, 8, none⟩ = some (.map (some (d.m 3))) ∧ V.cell? ⟨x, 0, none⟩ = some (.int .i64 k) ∧ V.cell? ⟨x, 1, none⟩ = some (.string nm)
set_option maxRecDepth 100000 in
set_option maxHeartbeats 4000000 in
theorem again_any (B qb : Nat) (s : St) (d : QD) (r : Ref) (w : World) (h : Inv B qb s d w) (hl : s.line.length ≤ 900000) (hp : s.pile.length ≤ 90000) (hnow : 0 ≤ s.now ∧ s.now ≤ 1099511627776)
    (hbase : 1 ≤ s.base ∧ s.base ≤ s.most ∧ s.most ≤ 1048576) (hf : 0 ≤ num (s.mp 3) r ∧ num (s.mp 3) r ≤ 1000000) :
    Calls Try.prog 16 #[.pointer (some ⟨qb, 0, none⟩), rv r] w fun e w' => e = .returned (.tuple #[]) ∧ Step B qb d w (againQ s r) w' := by
  obtain ⟨k, nm⟩ := r
  obtain ⟨x, hx⟩ : ∃ x, x = w.heap.size := ⟨_, rfl⟩
  obtain ⟨W, hW⟩ : ∃ W, W = w.alloc (.cells #[.int .i64 k, .string nm] 30) := ⟨_, rfl⟩
  have hbW : Below w.heap.size w W := by rw [hW]; exact (Below.refl _ _).alloc (Nat.le_refl _) _
  have hI := h.below hbW
  have hxW : W.heap[x]? = some (.cells #[.int .i64 k, .string nm] 30 (0, 0)) := by rw [hx, hW]; exact G.heap_new _ _
  have c0 := hI.cell 0
  simp only [qcells, List.getElem?_toArray, List.getElem?_cons_succ, List.getElem?_cons_zero] at c0
  obtain ⟨f, hfe⟩ : ∃ f, f = num (s.mp 3) ⟨k, nm⟩ := ⟨_, rfl⟩
  rw [← hfe] at hf
  have hqb : qb < w.heap.size := h.lt
  have hmx : ∀ i, d.m i < w.heap.size := fun i => (h.maps i).lt
  have HFE := Lib.hid hfe
  have HI := Lib.hid hI
  have HW := Lib.hid hW
  have HX := Lib.hid hx
  have HXW := Lib.hid hxW
  have Hb := Lib.hid hbW
  have Hl := Lib.hid hl
  have Hp := Lib.hid hp
  have Hnow := Lib.hid hnow
  have Hbase := Lib.hid hbase
  have Hf := Lib.hid hf
  have Hqb := Lib.hid hqb
  have Hmx := Lib.hid hmx
  rw [hW] at c0
  unfold rv
  clear hfe hI hW hx hxW hbW hl hp hnow hbase hf hqb hmx h
  go_enter Try.func16, Try.ntmps16
  go_upto_block 0 with (fail)
  rw [← HX.out, ← HW.out]
  clear c0
  go_cut [4, 5] from 12 to 31 (fun dv iv w1 => ∃ D : Int, dv = .int .i64 D ∧ Hid (min D s.most = rdelay s.base s.most f) ∧ Hid (Below W.heap.size W w1))
  case first =>
    go_wp2_with (fail)
    go_loopw [4, 5] (fun dv iv wr => ∃ (j : Nat) (D : Int), iv = .int .i64 j ∧ dv = .int .i64 D ∧ (j : Int) ≤ f ∧ j ≤ 20 ∧ Hid (D = s.base * 2 ^ j) ∧ Hid (Below W.heap.size W wr)) (fun _ iv _ => 21 - (intOf iv).toNat)
    case atStart => exact ⟨0, s.base, by go_num, rfl, by have := Hf.out; omega, by omega, Lib.hid (by simp), Lib.hid (Below.refl _ _)⟩
    case round =>
      obtain ⟨j, D, rfl, rfl, hj, hj20, HD, HB⟩ := hrel
      have hIr := HI.out.below HB.out
      have c8 := hIr.cell 8
      have c1 := hIr.cell 1
      simp only [qcells, List.getElem?_toArray, List.getElem?_cons_succ, List.getElem?_cons_zero] at c8 c1
      have lk := look (hIr.maps 3) k nm
      rw [← HFE.out] at lk
      have b0 : wr.cell? ⟨x, 0, none⟩ = some (.int .i64 k) := G.cell_below HB.out (by simp [World.cell?, HXW.out])
      have b1 : wr.cell? ⟨x, 1, none⟩ = some (.string nm) := G.cell_below HB.out (by simp [World.cell?, HXW.out])
      clear hIr
      by_cases hgo : (j : Int) < f ∧ D < s.most
      · obtain ⟨g1, g2⟩ := hgo
        have d1 : decide ((j : Int) < f) = true := decide_eq_true g1
        have d2 : decide (D < s.most) = true := decide_eq_true g2
        have hj2 := dbl_lt Hbase.out.1 HD.out Hbase.out.2.2 g2
        have hnx : D * 2 = s.base * 2 ^ (j + 1) := by rw [HD.out, Int.pow_succ, Int.mul_assoc]
        have h0 : 0 ≤ D := by rw [HD.out]; exact Int.mul_nonneg (by have := Hbase.out; omega) (by have := pow_mono2 (Nat.zero_le j); simp at this; omega)
        have hm := Hbase.out.2.2
        have hwD : wrap64 (D * 2) = D * 2 := by unfold wrap64; omega
        have Hnx := Lib.hid (hwD.trans hnx)
        have HJ := Lib.hid (And.intro hj2 g1)
        clear g1 g2 hj2 hnx h0 hm
        go_wp2
        go_quiet (fail)
        go_wp2
        go_roundw
        case rel => exact ⟨j + 1, wrap64 (D * 2), by go_num, rfl, by have := HJ.out; omega, by have := HJ.out; omega, Hnx, Lib.hid (G.bdrewN HB.out _)⟩
        case measure => have := HJ.out; simp [intOf]; omega
      · have hst := stop_at Hbase.out.1 Hbase.out.2.1 Hbase.out.2.2 Hf.out.1 HD.out hj hgo hj20
        have HST := Lib.hid hst
        have hc : (∃ b : Bool, decide ((j : Int) < f) = b ∧ (b = true → decide (D < s.most) = false)) := ⟨_, rfl, fun h => decide_eq_false (fun h2 => hgo ⟨of_decide_eq_true h, h2⟩)⟩
        clear hst hgo
        obtain ⟨b, d1, d2⟩ := hc
        rcases b with _ | _
        all_goals
          first
          | (have d3 := d2 rfl; clear d2)
          | clear d2
          go_wp2
          go_quiet (fail)
          go_wp2
          go_meet
          case rel => exact ⟨D, rfl, HST, Lib.hid (G.bdrewN HB.out _)⟩
  case rest =>
    obtain ⟨D, rfl, HST, HBc⟩ := hcut
    go_upto_region 7 with (fail)
    have hI2 := (HI.out.below HBc.out).keep (w1 := wc.drew) (fun _ _ => rfl)
    obtain ⟨o, o2, st, e1, l1, e2, hI3⟩ := mentry hI2 3 k nm (f + 1)
    have l0 := look0 (hI2.maps 3) k nm
    rw [← HFE.out] at e1 l1 l0
    have E1 := Lib.hid e1
    have E2 := Lib.hid e2
    have L0 := Lib.hid l0
    have L1 := Lib.hid l1
    obtain ⟨w3, hw3⟩ : ∃ w3, w3 = M.upd (M.upd wc.drew (d.m 3) o) (d.m 3) o2 := ⟨_, rfl⟩
    rw [← hw3] at hI3
    have c8 := hI2.cell 8
    simp only [qcells, List.getElem?_toArray, List.getElem?_cons_succ, List.getElem?_cons_zero] at c8
    have b0 : wc.drew.cell? ⟨x, 0, none⟩ = some (.int .i64 k) := G.cell_below HBc.out (by simp [World.cell?, HXW.out])
    have b1 : wc.drew.cell? ⟨x, 1, none⟩ = some (.string nm) := G.cell_below HBc.out (by simp [World.cell?, HXW.out])
    have n1 : qb ≠ d.m 3 := map_not_cells hI2.cells (hI2.maps 3)
    have n2 : x ≠ d.m 3 := by have h1 := Hmx.out 3; have h2 := HX.out; omega
    have kp : ∀ (V : World) (q : Obj), AgC qb d x k nm V → AgC qb d x k nm (M.upd V (d.m 3) q) := fun V q h => ⟨upd_cell h.1 n1, upd_cell h.2.1 n2, upd_cell h.2.2 n2⟩
    have KP := Lib.hid kp
    have CS := Lib.hid (show AgC qb d x k nm wc.drew from And.intro c8 (And.intro b0 b1))
    have HW3 := Lib.hid hw3
    have K3 : Hid (AgC qb d x k nm w3) := Lib.hid (by rw [hw3]; exact kp _ _ (kp _ _ ⟨c8, b0, b1⟩))
    have F3 : Hid (Fr (Foot qb d) w w3) := Lib.hid (by
      have a1 : Fr (Foot qb d) w wc.drew := Fr.of_below (G.bdrewN (Hb.out.trans ⟨HBc.out.os, HBc.out.tape, HBc.out.output, HBc.out.size, fun i hi => HBc.out.block i (Nat.lt_of_lt_of_le hi Hb.out.size)⟩) 1)
      rw [hw3]
      exact (a1.trans (fr_upd wc.drew 0 (d.m 3) o (.inr (.inl ⟨3, rfl⟩))) (fun _ hj => .inl hj)).trans (fr_upd _ 0 (d.m 3) o2 (.inr (.inl ⟨3, rfl⟩))) (fun _ hj => .inl hj))
    have HWF : Hid (IntKind.i64.wrap (f + 1) = f + 1) := Lib.hid (by have := Hf.out; exact w64 _ (by omega) (by omega))
    have HI4 : Hid (Inv B qb (againF s ⟨k, nm⟩) d w3) := Lib.hid (by rw [HFE.out] at hI3; exact hI3)
    clear e1 e2 l0 l1 hw3 hI3 hI2 c8 b0 b1 n1 n2 kp
    go_cut [] from 32 to 40 (fun wd => Hid (Inv B qb (againF s ⟨k, nm⟩) d wd) ∧ Hid (AgC qb d x k nm wd) ∧ Hid (Fr (Foot qb d) w wd))
    case first =>
      refine wp_region_held_drew (S := AgC qb d x k nm) (by kernel_rfl) CS.out (fun hS0 => ?_)
      refine tk 0 32 (.pointer (some ⟨qb, 0, none⟩)) ?_
      try simp only [s1, s2, s3]
      refine tk 1 33 (.pointer (some ⟨qb, 0, none⟩)) ?_
      try simp only [s1, s2, s3]
      refine tk 2 34 (.pointer (some ⟨qb, 8, none⟩)) ?_
      try simp only [s1, s2, s3]
      refine tk 3 35 (.map (some (d.m 3))) ?_ (hv := by (intro V hV; have c8 := hV.1; clear hV; go_simp; try rfl))
      try simp only [s1, s2, s3]
      refine tk 4 36 (.agg #[.int .i64 k, .string nm]) ?_ (hv := by (intro V hV; obtain ⟨_, b0, b1⟩ := hV; go_simp; try rfl))
      try simp only [s1, s2, s3]
      refine wpAnyH_ready (rs := [5, 7]) (by kernel_rfl) (by simp) ?_
      refine AllReadyH.cons rfl (fun K hK => ?_) ?_
      · rw [if_pos (by rfl)]
        first | refine wpo_lookup 56 (.tmp 35) (.tmp 36) false rfl 37 rfl rfl rfl L0.out ?_ | refine wpo_lookup 56 (.tmp 35) (.tmp 36) false rfl 37 rfl rfl rfl L1.out ?_
        refine hK.out _ _ (by assumption) (fun hHeld => ?_)
        clear hK K
        try simp only [Act.put, s1, s2, s3]
        refine tk 6 38 (.int .i64 (f + 1)) ?_ (hv := by (intro V hV; clear hV; go_simp; exact HWF.out))
        try simp only [s1, s2, s3]
        refine wpAnyH_ready (rs := [7]) (by kernel_rfl) (by simp) ?_
        refine AllReadyH.cons rfl (fun K hK => ?_) ?_
        · rw [if_pos (by rfl)]
          refine wpo_mapEntry 56 (.tmp 35) (.tmp 36) rfl 39 rfl rfl rfl E1.out ?_
          refine hK.out _ _ (by first | exact KP.out _ _ hHeld | exact KP.out _ _ hS0) (fun hHeld => ?_)
          clear hK K
          try simp only [Act.put, s1, s2, s3]
          refine tk 8 40 (goInt st) ?_
          try simp only [s1, s2, s3]
          refine wpAnyH_ready (rs := [9]) (by kernel_rfl) (by simp) ?_
          refine AllReadyH.cons rfl (fun K hK => ?_) ?_
          · rw [if_pos (by rfl)]
            refine wpo_entryStore 56 (.tmp 35) (.tmp 40) (.tmp 38) rfl rfl rfl rfl rfl E2.out ?_
            refine hK.out _ _ (by first | exact KP.out _ _ hHeld | exact KP.out _ _ hS0) (fun hHeld => ?_)
            clear hK K
            try simp only [Act.put, s1, s2, s3]
            refine wpAnyH_done (by kernel_rfl) ?_ _
            repeat clear hHeld
            clear hS0
            try dsimp only
            rw [← HW3.out]
            go_wp2_with (fail)
            go_meet
            case rel => exact ⟨HI4, K3, F3⟩
          exact AllReadyH.nil
        exact AllReadyH.nil
      refine AllReadyH.cons rfl (fun K hK => ?_) ?_
      · rw [if_pos (by rfl)]
        refine wpo_mapEntry 56 (.tmp 35) (.tmp 36) rfl 39 rfl rfl rfl E1.out ?_
        refine hK.out _ _ (by first | exact KP.out _ _ hHeld | exact KP.out _ _ hS0) (fun hHeld => ?_)
        clear hK K
        try simp only [Act.put, s1, s2, s3]
        refine tk 8 40 (goInt st) ?_
        try simp only [s1, s2, s3]
        refine wpAnyH_ready (rs := [5]) (by kernel_rfl) (by simp) ?_
        refine AllReadyH.cons rfl (fun K hK => ?_) ?_
        · rw [if_pos (by rfl)]
          first | refine wpo_lookup 56 (.tmp 35) (.tmp 36) false rfl 37 rfl rfl rfl L0.out ?_ | refine wpo_lookup 56 (.tmp 35) (.tmp 36) false rfl 37 rfl rfl rfl L1.out ?_
          refine hK.out _ _ (by assumption) (fun hHeld => ?_)
          clear hK K
          try simp only [Act.put, s1, s2, s3]
          refine tk 6 38 (.int .i64 (f + 1)) ?_ (hv := by (intro V hV; clear hV; go_simp; exact HWF.out))
          try simp only [s1, s2, s3]
          refine wpAnyH_ready (rs := [9]) (by kernel_rfl) (by simp) ?_
          refine AllReadyH.cons rfl (fun K hK => ?_) ?_
          · rw [if_pos (by rfl)]
            refine wpo_entryStore 56 (.tmp 35) (.tmp 40) (.tmp 38) rfl rfl rfl rfl rfl E2.out ?_
            refine hK.out _ _ (by first | exact KP.out _ _ hHeld | exact KP.out _ _ hS0) (fun hHeld => ?_)
            clear hK K
            try simp only [Act.put, s1, s2, s3]
            refine wpAnyH_done (by kernel_rfl) ?_ _
            repeat clear hHeld
            clear hS0
            try dsimp only
            rw [← HW3.out]
            go_wp2_with (fail)
            go_meet
            case rel => exact ⟨HI4, K3, F3⟩
          exact AllReadyH.nil
        exact AllReadyH.nil
      exact AllReadyH.nil
    case rest =>
      obtain ⟨HI5, K5, F5⟩ := hcut
      have HI6 := Lib.hid (HI5.out.keep (w1 := wc.drew) (fun _ _ => rfl))
      have F6 := Lib.hid (F5.out.trans (Fr.of_below (F := Foot qb d) (G.bdrewN (Below.refl _ _) 1)) (fun _ hj => .inl hj))
      have Ha := Lib.hid (show againQ s ⟨k, nm⟩ = afterS (againF s ⟨k, nm⟩) ⟨k, nm⟩ (min D s.most) by rw [HST.out, HFE.out]; rfl)
      have C := Lib.hid (after_any B qb _ d ⟨k, nm⟩ (min D s.most) wc.drew HI6.out (by have := Hl.out; show s.line.length ≤ _; omega) (by have := Hp.out; show s.pile.length ≤ _; omega) Hnow.out)
      have c1 : wc.cell? ⟨qb, 1, none⟩ = some (.int .i64 s.most) := HI5.out.cell 1
      have b0 : wc.cell? ⟨x, 0, none⟩ = some (.int .i64 k) := K5.out.2.1
      have b1 : wc.cell? ⟨x, 1, none⟩ = some (.string nm) := K5.out.2.2
      go_upto_region 8 with (fail)
      go_still_tail 8, (by kernel_rfl)
      change wpList _ _ _ _ _ wc.drew
      go_wp2_with (go_at_call 28; refine C.out.mono ?_; rintro e w9 ⟨rfl, hs⟩)
      refine bodyPost_end (results_none rfl _ _ _) rfl ⟨rfl, ?_⟩
      rw [Ha.out]; exact Step.from' F6.out hs
end Go.Proofs.Ythmknlflgajnpaa
