/- Sync; the segment into which the next record goes. -/
import Derived.Test.YtdmjbdecemajpaaDoorWk4
import Derived.Test.YtdmjbdecemajpaaDoorTk
namespace Go.Proofs.YtdmjbdecemajpaaDoor.D
set_option linter.unusedVariables false
set_option linter.unusedSimpArgs false
open Go.RowKit
theorem WStep.get {B db m lb : Nat} {s : DS} {L : LS} {v : Value} {w w' : World} (h : WStep B db m lb v w s L w') : ∃ v', WInv B db m lb s L v' w' ∧ WF db m lb v w v' w' := by
  obtain ⟨v', h1, h2, h3⟩ := h
  exact ⟨v', h1, h2, h3⟩
theorem WF.mk' {B db m lb : Nat} {s : DS} {L : LS} {v v' : Value} {w w' : World} (h : WF db m lb v w v' w') (hw : WInv B db m lb s L v' w') : WStep B db m lb v w s L w' := ⟨v', hw, h.foot, h.fr⟩
theorem WF.refl (db m lb : Nat) (v : Value) (w : World) : WF db m lb v w v w := ⟨fun _ h => .inl h, Fr.refl _ _⟩
theorem WF.trans {db m lb : Nat} {v v1 v2 : Value} {w w1 w2 : World} (h : WF db m lb v w v1 w1) (k : WF db m lb v1 w1 v2 w2) : WF db m lb v w v2 w2 := by
  refine ⟨fun j hj => ?_, h.fr.trans k.fr h.foot⟩
  rcases k.foot j hj with h4 | h4
  · exact h.foot j h4
  · exact .inr (Nat.le_trans h.fr.size h4)
/-- what the drawing regions read -/
structure LCel (db lb : Nat) (L : LS) (V : World) : Prop where
  c0 : V.cell? ⟨lb, 0, none⟩ = some (.pointer (some ⟨db, 0, none⟩))
  c1 : V.cell? ⟨lb, 1, none⟩ = some (.int .i64 L.gen)
  c4 : V.cell? ⟨lb, 4, none⟩ = some (.int .i64 L.last)
structure LSee (db lb : Nat) (L : LS) (w V : World) : Prop where
  b : Below w.heap.size w V
  c0 : V.cell? ⟨lb, 0, none⟩ = some (.pointer (some ⟨db, 0, none⟩))
  c1 : V.cell? ⟨lb, 1, none⟩ = some (.int .i64 L.gen)
  c4 : V.cell? ⟨lb, 4, none⟩ = some (.int .i64 L.last)
theorem LSee.low {db lb : Nat} {L : LS} {w V V' : World} (h : LSee db lb L w V) (hb : Below V.heap.size V V') : LSee db lb L w V' := ⟨G.bthen h.b hb, G.cell_below hb h.c0, G.cell_below hb h.c1, G.cell_below hb h.c4⟩
theorem WInv.see {B db m lb : Nat} {s : DS} {L L' : LS} {v : Value} {w : World} (h : WInv B db m lb s L' v w) (e1 : L'.gen = L.gen := by rfl) (e4 : L'.last = L.last := by rfl) : LCel db lb L w := ⟨h.l.cs.1, by rw [← e1]; exact h.l.cs.2.1, by rw [← e4]; exact h.l.cs.2.2.2.2.1⟩
/-- the log's Sync -/
def wsyE (s : DS) (L : LS) : Int := if L.over = true then 11 else if 0 < L.last then synE s (L.gen * 100 + L.last) else 0
def wsyS (s : DS) (L : LS) : DS := if L.over = true then s else if 0 < L.last then synS s (L.gen * 100 + L.last) else s
def endL (L : LS) (E : Int) : LS := { L with over := L.over || decide (E ≠ 0) }
def wsyL (s : DS) (L : LS) : LS := if L.over = true then L else if 0 < L.last then (if synE s (L.gen * 100 + L.last) ≠ 0 then endL L (synE s (L.gen * 100 + L.last)) else { endL L (synE s (L.gen * 100 + L.last)) with pend := 0 }) else { L with pend := 0 }
set_option maxRecDepth 100000 in
set_option maxHeartbeats 4000000 in
theorem Sync_any (B db m lb : Nat) (s : DS) (L : LS) (v : Value) (k : Nat) (w : World) (h : WInv B db m lb s L v w) (hO : Okk s k) (hk : k ≤ 900000) (hg : 0 ≤ L.gen ∧ L.gen ≤ 100000) (hl : 0 ≤ L.last ∧ L.last ≤ 1000) :
    Calls Tryd.prog 34 #[.pointer (some ⟨lb, 0, none⟩)] w fun e w' => e = .returned (.int .i64 (wsyE s L)) ∧ WStep B db m lb v w (wsyS s L) (wsyL s L) w' := by
  have hcs := h.l.cs
  have c0 := hcs.1
  have c1 := hcs.2.1
  have c4 := hcs.2.2.2.2.1
  have c5 := hcs.2.2.2.2.2.1
  have c6 := hcs.2.2.2.2.2.2
  have f5 := h.l.free 5
  have hlt := h.l.lt
  cases ho : L.over
  · rw [ho] at c6
    by_cases hl0 : 0 < L.last
    · obtain ⟨no, hno⟩ : ∃ no, no = L.gen * 100 + L.last := ⟨_, rfl⟩
      have HWR : Hid (IntKind.i64.wrap (L.gen * 100 + L.last) = no) := Lib.hid (by rw [IntKind.wrap_i64]; omega)
      have hP : wsyE s L = synE s no ∧ wsyS s L = synS s no ∧ wsyL s L = (if synE s no ≠ 0 then endL L (synE s no) else { endL L (synE s no) with pend := 0 }) := by
        have ho' : ¬ L.over = true := by rw [ho]; decide
        unfold wsyE wsyS wsyL
        rw [if_neg ho', if_neg ho', if_neg ho', if_pos hl0, if_pos hl0, if_pos hl0, hno]
        exact ⟨rfl, rfl, rfl⟩
      obtain ⟨E, hE⟩ : ∃ E, synE s no = E := ⟨_, rfl⟩
      obtain ⟨s1, hs1⟩ : ∃ s1, synS s no = s1 := ⟨_, rfl⟩
      have HWd := Lib.hid (h.low (G.bdrewN (Below.refl _ _) 1))
      have hcy := sync_any B db m s no (w.drewN 1) HWd.out.t.d (hO.bd (by omega))
      rw [hE, hs1] at hcy hP
      have CY : Hid (Calls Tryd.prog 59 #[.pointer (some ⟨db, 0, none⟩), .int .i64 no] w.drew fun e w' => e = .returned (.int .i64 E) ∧ DStep B db m w.drew s1 w') := Lib.hid hcy
      have HF0 : Hid (WF db m lb v w v w.drew) := Lib.hid ((WF.refl db m lb v w).low (G.bdrewN (Below.refl _ _) 1))
      have HP := Lib.hid hP
      have HL0 := Lib.hid hl0
      clear h hO hcs hno hP hE hs1 hcy f5
      go_enter Tryd.func34, Tryd.ntmps34
      go_upto_region 6 with (fail)
      refine wp_region_held_drew (S := LCel db lb L) (by kernel_rfl) ⟨c0, c1, c4⟩ (fun hS0 => ?_)
      refine tk 0 18 (.pointer (some ⟨lb, 0, none⟩)) ?_
      try simp only [s1, s2, s3]
      refine tk 1 19 (.pointer (some ⟨lb, 0, none⟩)) ?_
      try simp only [s1, s2, s3]
      refine tk 2 20 (.pointer (some ⟨lb, 0, none⟩)) ?_
      try simp only [s1, s2, s3]
      refine tk 3 21 (.pointer (some ⟨lb, 0, none⟩)) ?_
      try simp only [s1, s2, s3]
      refine tk 4 22 (.pointer (some ⟨db, 0, none⟩)) ?_ (hv := by (intro V hV; have c0 := hV.c0; clear hV; go_simp; try rfl))
      try simp only [s1, s2, s3]
      refine tk 5 23 (.pointer (some ⟨lb, 0, none⟩)) ?_
      try simp only [s1, s2, s3]
      refine tk 6 24 (.pointer (some ⟨lb, 0, none⟩)) ?_
      try simp only [s1, s2, s3]
      refine tk 7 25 (.pointer (some ⟨lb, 1, none⟩)) ?_
      try simp only [s1, s2, s3]
      refine tk 8 26 (.int .i64 L.gen) ?_ (hv := by (intro V hV; have c1 := hV.c1; clear hV; go_simp; try rfl))
      try simp only [s1, s2, s3]
      refine tk 10 28 (.pointer (some ⟨lb, 0, none⟩)) ?_
      try simp only [s1, s2, s3]
      refine tk 11 29 (.pointer (some ⟨lb, 0, none⟩)) ?_
      try simp only [s1, s2, s3]
      refine tk 12 30 (.pointer (some ⟨lb, 4, none⟩)) ?_
      try simp only [s1, s2, s3]
      refine tk 13 31 (.int .i64 L.last) ?_ (hv := by (intro V hV; have c4 := hV.c4; clear hV; go_simp; try rfl))
      try simp only [s1, s2, s3]
      refine wpAnyH_ready (rs := [9]) (by kernel_rfl) (by simp) ?_
      refine AllReadyH.cons rfl (fun K hK => ?_) ?_
      · rw [if_pos (by rfl)]
        go_simp
        go_at_call 53
        refine (begin_any L.gen hg _).mono ?_
        rintro e w9 ⟨rfl, rfl⟩
        dsimp only
        refine hK.out _ _ ((by assumption)) (fun hHeld => ?_)
        clear hK K
        try simp only [Act.put, s1, s2, s3]
        refine tk 14 32 (.int .i64 no) ?_ (hv := by (intro V hV; clear hV; go_simp; first | exact HWR.out | rw [HWR.out] | (rw [HWR.out]; rfl)))
        try simp only [s1, s2, s3]
        refine wpAnyH_ready (rs := [15]) (by kernel_rfl) (by simp) ?_
        refine AllReadyH.cons rfl (fun K hK => ?_) ?_
        · rw [if_pos (by rfl)]
          go_simp
          go_at_call 59
          refine CY.out.mono ?_
          rintro e w2 ⟨rfl, hs2⟩
          have HW2 := Lib.hid (WInv.dstep (HWd.out) hs2)
          have HS2 := Lib.hid hs2
          clear hs2
          dsimp only
          refine hK.out _ _ (HW2.out.see) (fun hHeld => ?_)
          clear hK K
          try simp only [Act.put, s1, s2, s3]
          refine wpAnyH_ready (rs := [16]) (by kernel_rfl) (by simp) ?_
          refine AllReadyH.cons rfl (fun K hK => ?_) ?_
          · rw [if_pos (by rfl)]
            go_simp
            go_at_call 57
            refine (end_any B db m lb s1 L v E _ HW2.out).mono ?_
            rintro e w3 ⟨rfl, hs3⟩
            obtain ⟨v3, hw3, hf3⟩ := hs3.get
            have HW3 := Lib.hid hw3
            have HF3 := Lib.hid hf3
            clear hs3 hw3 hf3
            dsimp only
            refine hK.out _ _ (HW3.out.see) (fun hHeld => ?_)
            clear hK K
            try simp only [Act.put, s1, s2, s3]
            refine tk 17 3 (.int .i64 E) ?_
            try simp only [s1, s2, s3]
            refine wpAnyH_done (by kernel_rfl) ?_ _
            repeat clear hHeld
            clear hS0
            try dsimp only
            have HF4 := Lib.hid (((HF0.out).disk HS2.out).trans HF3.out)
            clear c0 c1 c4 c5 c6 hlt
            have c5 := HW3.out.l.cs.2.2.2.2.2.1
            have f5 := HW3.out.l.free 5
            have hlt := HW3.out.l.lt
            by_cases hE0 : E = 0
            · subst hE0
              have HZ := Lib.hid (HF4.out.cat (HW3.out.seti (L' := { endL L 0 with pend := 0 }) 5 (.int .i64 0) rfl rfl))
              go_wp2_with (fail)
              go_ret
              rw [HP.out.1, HP.out.2.1, HP.out.2.2, if_neg (by decide)]
              exact ⟨rfl, HZ.out⟩
            · have hE1 : (E != 0) = true := by simpa using hE0
              have HE0 := Lib.hid hE0
              clear hE0
              go_wp2_with (fail)
              go_ret
              rw [HP.out.1, HP.out.2.1, HP.out.2.2, if_pos HE0.out]
              exact ⟨rfl, HF4.out.mk' HW3.out⟩
          exact AllReadyH.nil
        exact AllReadyH.nil
      exact AllReadyH.nil
    · have hP : wsyE s L = 0 ∧ wsyS s L = s ∧ wsyL s L = { L with pend := 0 } := by
        have ho' : ¬ L.over = true := by rw [ho]; decide
        unfold wsyE wsyS wsyL
        rw [if_neg ho', if_neg ho', if_neg ho', if_neg hl0, if_neg hl0, if_neg hl0]
        exact ⟨rfl, rfl, rfl⟩
      have HP := Lib.hid hP
      have HZ := Lib.hid (h.seti (L' := { L with pend := 0 }) 5 (.int .i64 0) rfl rfl)
      clear h hO hcs hP ho
      go_enter Tryd.func34, Tryd.ntmps34
      go_wp2
      go_ret
      rw [HP.out.1, HP.out.2.1, HP.out.2.2]
      exact ⟨rfl, HZ.out⟩
  · rw [ho] at c6
    have hP : wsyE s L = 11 ∧ wsyS s L = s ∧ wsyL s L = L := by
      unfold wsyE wsyS wsyL
      rw [if_pos ho, if_pos ho, if_pos ho]
      exact ⟨rfl, rfl, rfl⟩
    have HP := Lib.hid hP
    have HZ := Lib.hid (WStep.same h (Below.refl _ _))
    clear h hO hcs hP ho
    go_enter Tryd.func34, Tryd.ntmps34
    go_wp2
    go_ret
    rw [HP.out.1, HP.out.2.1, HP.out.2.2]
    exact ⟨rfl, HZ.out⟩
/-- where the next record goes -/
structure RR where
  k : Int
  e : Int
  s : DS
  L : LS
def roomP (s : DS) (L : LS) : RR :=
  if 0 < L.last ∧ (readT s (L.gen * 100 + L.last)).size < 600 then ⟨L.last, 0, s, L⟩
  else if L.last = 99 then ⟨0, 9, s, L⟩
  else if 0 < L.last then (if synE s (L.gen * 100 + L.last) ≠ 0 then ⟨0, synE s (L.gen * 100 + L.last), synS s (L.gen * 100 + L.last), endL L (synE s (L.gen * 100 + L.last))⟩
    else ⟨L.last + 1, 0, synS s (L.gen * 100 + L.last), { endL L (synE s (L.gen * 100 + L.last)) with pend := 0 }⟩)
  else ⟨L.last + 1, 0, s, L⟩
set_option maxRecDepth 100000 in
set_option maxHeartbeats 8000000 in
theorem room_any (B db m lb : Nat) (s : DS) (L : LS) (v : Value) (k : Nat) (w : World) (h : WInv B db m lb s L v w) (hO : Okk s k) (hk : k ≤ 900000) (hg : 0 ≤ L.gen ∧ L.gen ≤ 100000) (hl : 0 ≤ L.last ∧ L.last ≤ 1000) :
    Calls Tryd.prog 56 #[.pointer (some ⟨lb, 0, none⟩)] w fun e w' => e = .returned (.tuple #[.int .i64 (roomP s L).k, .int .i64 (roomP s L).e]) ∧ WStep B db m lb v w (roomP s L).s (roomP s L).L w' := by
  have hcs := h.l.cs
  have c0 := hcs.1
  have c1 := hcs.2.1
  have c4 := hcs.2.2.2.2.1
  have hlt := h.l.lt
  obtain ⟨no, hno⟩ : ∃ no, no = L.gen * 100 + L.last := ⟨_, rfl⟩
  have HWR : Hid (IntKind.i64.wrap (L.gen * 100 + L.last) = no) := Lib.hid (by rw [IntKind.wrap_i64]; omega)
  have hcr : ∀ V, Below w.heap.size w V → Calls Tryd.prog 63 #[.pointer (some ⟨db, 0, none⟩), .int .i64 no] V fun e w' => e = .returned (.tuple #[.string (readT s no), .bool (readB s no)]) ∧ Below V.heap.size V w' := fun V hV => read_any B db m s no V (h.low hV).t.d
  have hTs : (readT s no).size ≤ 1048576 := by
    unfold readT
    split
    · decide
    · exact (fl_ok hO.fl no).2
  have hP : roomP s L = (if 0 < L.last ∧ (readT s no).size < 600 then ⟨L.last, 0, s, L⟩ else if L.last = 99 then ⟨0, 9, s, L⟩
      else if 0 < L.last then (if synE s no ≠ 0 then ⟨0, synE s no, synS s no, endL L (synE s no)⟩ else ⟨L.last + 1, 0, synS s no, { endL L (synE s no) with pend := 0 }⟩) else ⟨L.last + 1, 0, s, L⟩) := by
    rw [roomP, hno]
  obtain ⟨T, hT⟩ : ∃ T, readT s no = T := ⟨_, rfl⟩
  obtain ⟨b, hb⟩ : ∃ b, readB s no = b := ⟨_, rfl⟩
  rw [hT] at hTs hP
  simp only [hT, hb] at hcr
  have HCR := Lib.hid hcr
  have HP := Lib.hid hP
  have HW := Lib.hid h
  have HO := Lib.hid hO
  have HCY : Hid (∀ V, WInv B db m lb s L v V → Calls Tryd.prog 59 #[.pointer (some ⟨db, 0, none⟩), .int .i64 no] V fun e w' => e = .returned (.int .i64 (synE s no)) ∧ DStep B db m V (synS s no) w') := Lib.hid (fun V hV => sync_any B db m s no V hV.t.d (hO.bd (by omega)))
  clear h hO hcs hno hcr hP hT hb
  by_cases hl0 : 0 < L.last
  · have hl1 : decide (0 < L.last) = true := decide_eq_true hl0
    by_cases hsz : T.size < 600
    · have hsz1 : decide ((T.size : Int) < 600) = true := decide_eq_true (by omega)
      have hP := HP.out
      rw [if_pos ⟨hl0, hsz⟩] at hP
      replace HP := Lib.hid hP
      clear hP
      go_enter Tryd.func56, Tryd.ntmps56
      go_upto_region 1 with (fail)
      refine wp_region_held_drew (S := LSee db lb L w) (by kernel_rfl) ⟨G.bdrew (Below.refl _ _), c0, c1, c4⟩ (fun hS0 => ?_)
      refine tk 0 8 (.pointer (some ⟨lb, 0, none⟩)) ?_
      try simp only [s1, s2, s3]
      refine tk 1 9 (.pointer (some ⟨lb, 0, none⟩)) ?_
      try simp only [s1, s2, s3]
      refine tk 2 10 (.pointer (some ⟨lb, 0, none⟩)) ?_
      try simp only [s1, s2, s3]
      refine tk 3 11 (.pointer (some ⟨db, 0, none⟩)) ?_ (hv := by (intro V hV; have c0 := hV.c0; clear hV; go_simp; try rfl))
      try simp only [s1, s2, s3]
      refine tk 4 12 (.pointer (some ⟨lb, 0, none⟩)) ?_
      try simp only [s1, s2, s3]
      refine tk 5 13 (.pointer (some ⟨lb, 0, none⟩)) ?_
      try simp only [s1, s2, s3]
      refine tk 6 14 (.pointer (some ⟨lb, 1, none⟩)) ?_
      try simp only [s1, s2, s3]
      refine tk 7 15 (.int .i64 L.gen) ?_ (hv := by (intro V hV; have c1 := hV.c1; clear hV; go_simp; try rfl))
      try simp only [s1, s2, s3]
      refine tk 9 17 (.pointer (some ⟨lb, 0, none⟩)) ?_
      try simp only [s1, s2, s3]
      refine tk 10 18 (.pointer (some ⟨lb, 0, none⟩)) ?_
      try simp only [s1, s2, s3]
      refine tk 11 19 (.pointer (some ⟨lb, 4, none⟩)) ?_
      try simp only [s1, s2, s3]
      refine tk 12 20 (.int .i64 L.last) ?_ (hv := by (intro V hV; have c4 := hV.c4; clear hV; go_simp; try rfl))
      try simp only [s1, s2, s3]
      refine wpAnyH_ready (rs := [8]) (by kernel_rfl) (by simp) ?_
      refine AllReadyH.cons rfl (fun K hK => ?_) ?_
      · rw [if_pos (by rfl)]
        go_simp
        go_at_call 53
        refine (begin_any L.gen hg _).mono ?_
        rintro e w9 ⟨rfl, rfl⟩
        dsimp only
        refine hK.out _ _ ((by assumption)) (fun hHeld => ?_)
        clear hK K
        try simp only [Act.put, s1, s2, s3]
        refine tk 13 21 (.int .i64 no) ?_ (hv := by (intro V hV; clear hV; go_simp; first | exact HWR.out | rw [HWR.out] | (rw [HWR.out]; rfl)))
        try simp only [s1, s2, s3]
        refine wpAnyH_ready (rs := [14]) (by kernel_rfl) (by simp) ?_
        refine AllReadyH.cons rfl (fun K hK => ?_) ?_
        · rw [if_pos (by rfl)]
          go_simp
          go_at_call 63
          refine (HCR.out _ (LSee.b (by assumption))).mono ?_
          rintro e w2 ⟨rfl, hb2⟩
          dsimp only
          refine hK.out _ _ (LSee.low (by assumption) hb2) (fun hHeld => ?_)
          clear hK K
          try simp only [Act.put, s1, s2, s3]
          refine tk 15 7 (.tuple #[.string T, .bool b]) ?_
          try simp only [s1, s2, s3]
          refine tk 16 23 (.string T) ?_
          try simp only [s1, s2, s3]
          refine tk 17 24 (.bool b) ?_
          try simp only [s1, s2, s3]
          refine tk 18 4 (.string T) ?_
          try simp only [s1, s2, s3]
          refine tk 19 5 (.bool b) ?_
          try simp only [s1, s2, s3]
          refine wpAnyH_done (by kernel_rfl) ?_ _
          have HB2 := Lib.hid (LSee.b hHeld)
          repeat clear hHeld
          clear hS0
          try dsimp only
          have HWn := Lib.hid (HW.out.low HB2.out)
          have c0 := HWn.out.l.cs.1
          have c1 := HWn.out.l.cs.2.1
          have c4 := HWn.out.l.cs.2.2.2.2.1
          have c5 := HWn.out.l.cs.2.2.2.2.2.1
          have hlt := HWn.out.l.lt
          go_wp2_with (fail)
          go_ret2
          rw [HP.out]
          exact ⟨rfl, WStep.same HW.out HB2.out⟩
        exact AllReadyH.nil
      exact AllReadyH.nil
    · have hsz1 : decide ((T.size : Int) < 600) = false := decide_eq_false (by omega)
      have hP := HP.out
      rw [if_neg (fun h => hsz h.2)] at hP
      by_cases h99 : L.last = 99
      · have h991 : (L.last == 99) = true := by simpa using h99
        rw [if_pos h99] at hP
        replace HP := Lib.hid hP
        have H991 := Lib.hid h991
        clear hP h99 h991
        go_enter Tryd.func56, Tryd.ntmps56
        go_upto_region 1 with (fail)
        refine wp_region_held_drew (S := LSee db lb L w) (by kernel_rfl) ⟨G.bdrew (Below.refl _ _), c0, c1, c4⟩ (fun hS0 => ?_)
        refine tk 0 8 (.pointer (some ⟨lb, 0, none⟩)) ?_
        try simp only [s1, s2, s3]
        refine tk 1 9 (.pointer (some ⟨lb, 0, none⟩)) ?_
        try simp only [s1, s2, s3]
        refine tk 2 10 (.pointer (some ⟨lb, 0, none⟩)) ?_
        try simp only [s1, s2, s3]
        refine tk 3 11 (.pointer (some ⟨db, 0, none⟩)) ?_ (hv := by (intro V hV; have c0 := hV.c0; clear hV; go_simp; try rfl))
        try simp only [s1, s2, s3]
        refine tk 4 12 (.pointer (some ⟨lb, 0, none⟩)) ?_
        try simp only [s1, s2, s3]
        refine tk 5 13 (.pointer (some ⟨lb, 0, none⟩)) ?_
        try simp only [s1, s2, s3]
        refine tk 6 14 (.pointer (some ⟨lb, 1, none⟩)) ?_
        try simp only [s1, s2, s3]
        refine tk 7 15 (.int .i64 L.gen) ?_ (hv := by (intro V hV; have c1 := hV.c1; clear hV; go_simp; try rfl))
        try simp only [s1, s2, s3]
        refine tk 9 17 (.pointer (some ⟨lb, 0, none⟩)) ?_
        try simp only [s1, s2, s3]
        refine tk 10 18 (.pointer (some ⟨lb, 0, none⟩)) ?_
        try simp only [s1, s2, s3]
        refine tk 11 19 (.pointer (some ⟨lb, 4, none⟩)) ?_
        try simp only [s1, s2, s3]
        refine tk 12 20 (.int .i64 L.last) ?_ (hv := by (intro V hV; have c4 := hV.c4; clear hV; go_simp; try rfl))
        try simp only [s1, s2, s3]
        refine wpAnyH_ready (rs := [8]) (by kernel_rfl) (by simp) ?_
        refine AllReadyH.cons rfl (fun K hK => ?_) ?_
        · rw [if_pos (by rfl)]
          go_simp
          go_at_call 53
          refine (begin_any L.gen hg _).mono ?_
          rintro e w9 ⟨rfl, rfl⟩
          dsimp only
          refine hK.out _ _ ((by assumption)) (fun hHeld => ?_)
          clear hK K
          try simp only [Act.put, s1, s2, s3]
          refine tk 13 21 (.int .i64 no) ?_ (hv := by (intro V hV; clear hV; go_simp; first | exact HWR.out | rw [HWR.out] | (rw [HWR.out]; rfl)))
          try simp only [s1, s2, s3]
          refine wpAnyH_ready (rs := [14]) (by kernel_rfl) (by simp) ?_
          refine AllReadyH.cons rfl (fun K hK => ?_) ?_
          · rw [if_pos (by rfl)]
            go_simp
            go_at_call 63
            refine (HCR.out _ (LSee.b (by assumption))).mono ?_
            rintro e w2 ⟨rfl, hb2⟩
            dsimp only
            refine hK.out _ _ (LSee.low (by assumption) hb2) (fun hHeld => ?_)
            clear hK K
            try simp only [Act.put, s1, s2, s3]
            refine tk 15 7 (.tuple #[.string T, .bool b]) ?_
            try simp only [s1, s2, s3]
            refine tk 16 23 (.string T) ?_
            try simp only [s1, s2, s3]
            refine tk 17 24 (.bool b) ?_
            try simp only [s1, s2, s3]
            refine tk 18 4 (.string T) ?_
            try simp only [s1, s2, s3]
            refine tk 19 5 (.bool b) ?_
            try simp only [s1, s2, s3]
            refine wpAnyH_done (by kernel_rfl) ?_ _
            have HB2 := Lib.hid (LSee.b hHeld)
            repeat clear hHeld
            clear hS0
            try dsimp only
            have h991 := H991.out
            have HWn := Lib.hid (HW.out.low HB2.out)
            have c0 := HWn.out.l.cs.1
            have c1 := HWn.out.l.cs.2.1
            have c4 := HWn.out.l.cs.2.2.2.2.1
            have c5 := HWn.out.l.cs.2.2.2.2.2.1
            have hlt := HWn.out.l.lt
            go_wp2_with (fail)
            go_ret2
            rw [HP.out]
            exact ⟨rfl, WStep.same HW.out HB2.out⟩
          exact AllReadyH.nil
        exact AllReadyH.nil
      · have h991 : (L.last == 99) = false := by simpa using h99
        rw [if_neg h99, if_pos hl0] at hP
        obtain ⟨E, hE⟩ : ∃ E, synE s no = E := ⟨_, rfl⟩
        obtain ⟨s1, hs1⟩ : ∃ s1, synS s no = s1 := ⟨_, rfl⟩
        have hcy := HCY.out
        simp only [hE, hs1] at hcy hP
        replace HCY := Lib.hid hcy
        replace HP := Lib.hid hP
        clear hP hcy hE hs1
        go_enter Tryd.func56, Tryd.ntmps56
        go_upto_region 1 with (fail)
        refine wp_region_held_drew (S := LSee db lb L w) (by kernel_rfl) ⟨G.bdrew (Below.refl _ _), c0, c1, c4⟩ (fun hS0 => ?_)
        refine tk 0 8 (.pointer (some ⟨lb, 0, none⟩)) ?_
        try simp only [s1, s2, s3]
        refine tk 1 9 (.pointer (some ⟨lb, 0, none⟩)) ?_
        try simp only [s1, s2, s3]
        refine tk 2 10 (.pointer (some ⟨lb, 0, none⟩)) ?_
        try simp only [s1, s2, s3]
        refine tk 3 11 (.pointer (some ⟨db, 0, none⟩)) ?_ (hv := by (intro V hV; have c0 := hV.c0; clear hV; go_simp; try rfl))
        try simp only [s1, s2, s3]
        refine tk 4 12 (.pointer (some ⟨lb, 0, none⟩)) ?_
        try simp only [s1, s2, s3]
        refine tk 5 13 (.pointer (some ⟨lb, 0, none⟩)) ?_
        try simp only [s1, s2, s3]
        refine tk 6 14 (.pointer (some ⟨lb, 1, none⟩)) ?_
        try simp only [s1, s2, s3]
        refine tk 7 15 (.int .i64 L.gen) ?_ (hv := by (intro V hV; have c1 := hV.c1; clear hV; go_simp; try rfl))
        try simp only [s1, s2, s3]
        refine tk 9 17 (.pointer (some ⟨lb, 0, none⟩)) ?_
        try simp only [s1, s2, s3]
        refine tk 10 18 (.pointer (some ⟨lb, 0, none⟩)) ?_
        try simp only [s1, s2, s3]
        refine tk 11 19 (.pointer (some ⟨lb, 4, none⟩)) ?_
        try simp only [s1, s2, s3]
        refine tk 12 20 (.int .i64 L.last) ?_ (hv := by (intro V hV; have c4 := hV.c4; clear hV; go_simp; try rfl))
        try simp only [s1, s2, s3]
        refine wpAnyH_ready (rs := [8]) (by kernel_rfl) (by simp) ?_
        refine AllReadyH.cons rfl (fun K hK => ?_) ?_
        · rw [if_pos (by rfl)]
          go_simp
          go_at_call 53
          refine (begin_any L.gen hg _).mono ?_
          rintro e w9 ⟨rfl, rfl⟩
          dsimp only
          refine hK.out _ _ ((by assumption)) (fun hHeld => ?_)
          clear hK K
          try simp only [Act.put, s1, s2, s3]
          refine tk 13 21 (.int .i64 no) ?_ (hv := by (intro V hV; clear hV; go_simp; first | exact HWR.out | rw [HWR.out] | (rw [HWR.out]; rfl)))
          try simp only [s1, s2, s3]
          refine wpAnyH_ready (rs := [14]) (by kernel_rfl) (by simp) ?_
          refine AllReadyH.cons rfl (fun K hK => ?_) ?_
          · rw [if_pos (by rfl)]
            go_simp
            go_at_call 63
            refine (HCR.out _ (LSee.b (by assumption))).mono ?_
            rintro e w2 ⟨rfl, hb2⟩
            dsimp only
            refine hK.out _ _ (LSee.low (by assumption) hb2) (fun hHeld => ?_)
            clear hK K
            try simp only [Act.put, s1, s2, s3]
            refine tk 15 7 (.tuple #[.string T, .bool b]) ?_
            try simp only [s1, s2, s3]
            refine tk 16 23 (.string T) ?_
            try simp only [s1, s2, s3]
            refine tk 17 24 (.bool b) ?_
            try simp only [s1, s2, s3]
            refine tk 18 4 (.string T) ?_
            try simp only [s1, s2, s3]
            refine tk 19 5 (.bool b) ?_
            try simp only [s1, s2, s3]
            refine wpAnyH_done (by kernel_rfl) ?_ _
            have HB2 := Lib.hid (LSee.b hHeld)
            repeat clear hHeld
            clear hS0
            try dsimp only
            have HWn := Lib.hid (HW.out.low HB2.out)
            have c0 := HWn.out.l.cs.1
            have c1 := HWn.out.l.cs.2.1
            have c4 := HWn.out.l.cs.2.2.2.2.1
            have c5 := HWn.out.l.cs.2.2.2.2.2.1
            have hlt := HWn.out.l.lt
            go_upto_region 7 with (fail)
            have HWd := Lib.hid (HWn.out.low (G.bdrewN (Below.refl _ _) 1))
            have CY : Hid (Calls Tryd.prog 59 #[.pointer (some ⟨db, 0, none⟩), .int .i64 no] w2.drew fun e w' => e = .returned (.int .i64 E) ∧ DStep B db m w2.drew s1 w') := Lib.hid (HCY.out _ HWd.out)
            have HF0 : Hid (WF db m lb v w v w2.drew) := Lib.hid ((WF.refl db m lb v w).low (G.bdrewN HB2.out 1))
            clear HWd
            have HWd : Hid (WInv B db m lb s L v w2.drew) := Lib.hid (HWn.out.low (G.bdrewN (Below.refl _ _) 1))
            generalize hw5 : w2 = w5 at *
            clear hw5
            refine wp_region_held_drew (S := LCel db lb L) (by kernel_rfl) ⟨c0, c1, c4⟩ (fun hS0 => ?_)
            refine tk 0 52 (.pointer (some ⟨lb, 0, none⟩)) ?_
            try simp only [s1, s2, s3]
            refine tk 1 53 (.pointer (some ⟨lb, 0, none⟩)) ?_
            try simp only [s1, s2, s3]
            refine tk 2 54 (.pointer (some ⟨lb, 0, none⟩)) ?_
            try simp only [s1, s2, s3]
            refine tk 3 55 (.pointer (some ⟨lb, 0, none⟩)) ?_
            try simp only [s1, s2, s3]
            refine tk 4 56 (.pointer (some ⟨db, 0, none⟩)) ?_ (hv := by (intro V hV; have c0 := hV.c0; clear hV; go_simp; try rfl))
            try simp only [s1, s2, s3]
            refine tk 5 57 (.pointer (some ⟨lb, 0, none⟩)) ?_
            try simp only [s1, s2, s3]
            refine tk 6 58 (.pointer (some ⟨lb, 0, none⟩)) ?_
            try simp only [s1, s2, s3]
            refine tk 7 59 (.pointer (some ⟨lb, 1, none⟩)) ?_
            try simp only [s1, s2, s3]
            refine tk 8 60 (.int .i64 L.gen) ?_ (hv := by (intro V hV; have c1 := hV.c1; clear hV; go_simp; try rfl))
            try simp only [s1, s2, s3]
            refine tk 10 62 (.pointer (some ⟨lb, 0, none⟩)) ?_
            try simp only [s1, s2, s3]
            refine tk 11 63 (.pointer (some ⟨lb, 0, none⟩)) ?_
            try simp only [s1, s2, s3]
            refine tk 12 64 (.pointer (some ⟨lb, 4, none⟩)) ?_
            try simp only [s1, s2, s3]
            refine tk 13 65 (.int .i64 L.last) ?_ (hv := by (intro V hV; have c4 := hV.c4; clear hV; go_simp; try rfl))
            try simp only [s1, s2, s3]
            refine wpAnyH_ready (rs := [9]) (by kernel_rfl) (by simp) ?_
            refine AllReadyH.cons rfl (fun K hK => ?_) ?_
            · rw [if_pos (by rfl)]
              go_simp
              go_at_call 53
              refine (begin_any L.gen hg _).mono ?_
              rintro e w8 ⟨rfl, rfl⟩
              dsimp only
              refine hK.out _ _ ((by assumption)) (fun hHeld => ?_)
              clear hK K
              try simp only [Act.put, s1, s2, s3]
              refine tk 14 66 (.int .i64 no) ?_ (hv := by (intro V hV; clear hV; go_simp; first | exact HWR.out | rw [HWR.out] | (rw [HWR.out]; rfl)))
              try simp only [s1, s2, s3]
              refine wpAnyH_ready (rs := [15]) (by kernel_rfl) (by simp) ?_
              refine AllReadyH.cons rfl (fun K hK => ?_) ?_
              · rw [if_pos (by rfl)]
                go_simp
                go_at_call 59
                refine CY.out.mono ?_
                rintro e w6 ⟨rfl, hs2⟩
                have HW2 := Lib.hid (WInv.dstep (HWd.out) hs2)
                have HS2 := Lib.hid hs2
                clear hs2
                dsimp only
                refine hK.out _ _ (HW2.out.see) (fun hHeld => ?_)
                clear hK K
                try simp only [Act.put, s1, s2, s3]
                refine wpAnyH_ready (rs := [16]) (by kernel_rfl) (by simp) ?_
                refine AllReadyH.cons rfl (fun K hK => ?_) ?_
                · rw [if_pos (by rfl)]
                  go_simp
                  go_at_call 57
                  refine (end_any B db m lb s1 L v E _ HW2.out).mono ?_
                  rintro e w3 ⟨rfl, hs3⟩
                  obtain ⟨v3, hw3, hf3⟩ := hs3.get
                  have HW3 := Lib.hid hw3
                  have HF3 := Lib.hid hf3
                  clear hs3 hw3 hf3
                  dsimp only
                  refine hK.out _ _ (HW3.out.see) (fun hHeld => ?_)
                  clear hK K
                  try simp only [Act.put, s1, s2, s3]
                  refine tk 17 6 (.int .i64 E) ?_
                  try simp only [s1, s2, s3]
                  refine wpAnyH_done (by kernel_rfl) ?_ _
                  repeat clear hHeld
                  clear hS0
                  try dsimp only
                  have HF4 := Lib.hid (((HF0.out).disk HS2.out).trans HF3.out)
                  clear c0 c1 c4 c5 hlt
                  have c4 := HW3.out.l.cs.2.2.2.2.1
                  have c5 := HW3.out.l.cs.2.2.2.2.2.1
                  have f5 := HW3.out.l.free 5
                  have hlt := HW3.out.l.lt
                  by_cases hE0 : E = 0
                  · subst hE0
                    have hz := HF4.out.cat (HW3.out.seti (L' := { endL L 0 with pend := 0 }) 5 (.int .i64 0) rfl rfl)
                    go_upto_region 11 with (fail)
                    generalize w3.setCell ⟨lb, 5, none⟩ (.int .i64 0) = w4 at *
                    obtain ⟨v4, hw4, hf4⟩ := hz.get
                    clear c4 c5 f5 hlt
                    have c4 := hw4.l.cs.2.2.2.2.1
                    replace c4 : w4.cell? ⟨lb, 4, none⟩ = some (.int .i64 L.last) := c4
                    have hlt := hw4.l.lt
                    have HZ := Lib.hid hz
                    clear hw4 hf4 hz
                    go_wp2_with (fail)
                    go_ret2
                    rw [HP.out, if_neg (show ¬ ((0 : Int) ≠ 0) by decide)]
                    exact ⟨rfl, HZ.out⟩
                  · have hE1 : (E != 0) = true := by simpa using hE0
                    have HE0 := Lib.hid hE0
                    clear hE0
                    go_wp2_with (fail)
                    go_ret2
                    rw [HP.out, if_pos HE0.out]
                    exact ⟨rfl, HF4.out.mk' HW3.out⟩
                exact AllReadyH.nil
              exact AllReadyH.nil
            exact AllReadyH.nil
          exact AllReadyH.nil
        exact AllReadyH.nil
  · have hl1 : decide (0 < L.last) = false := decide_eq_false hl0
    have h991 : (L.last == 99) = false := by simp; omega
    have hP := HP.out
    rw [if_neg (fun h => hl0 h.1), if_neg (by omega), if_neg hl0] at hP
    replace HP := Lib.hid hP
    clear hP
    go_enter Tryd.func56, Tryd.ntmps56
    go_upto_region 1 with (fail)
    refine wp_region_held_drew (S := LSee db lb L w) (by kernel_rfl) ⟨G.bdrew (Below.refl _ _), c0, c1, c4⟩ (fun hS0 => ?_)
    refine tk 0 8 (.pointer (some ⟨lb, 0, none⟩)) ?_
    try simp only [s1, s2, s3]
    refine tk 1 9 (.pointer (some ⟨lb, 0, none⟩)) ?_
    try simp only [s1, s2, s3]
    refine tk 2 10 (.pointer (some ⟨lb, 0, none⟩)) ?_
    try simp only [s1, s2, s3]
    refine tk 3 11 (.pointer (some ⟨db, 0, none⟩)) ?_ (hv := by (intro V hV; have c0 := hV.c0; clear hV; go_simp; try rfl))
    try simp only [s1, s2, s3]
    refine tk 4 12 (.pointer (some ⟨lb, 0, none⟩)) ?_
    try simp only [s1, s2, s3]
    refine tk 5 13 (.pointer (some ⟨lb, 0, none⟩)) ?_
    try simp only [s1, s2, s3]
    refine tk 6 14 (.pointer (some ⟨lb, 1, none⟩)) ?_
    try simp only [s1, s2, s3]
    refine tk 7 15 (.int .i64 L.gen) ?_ (hv := by (intro V hV; have c1 := hV.c1; clear hV; go_simp; try rfl))
    try simp only [s1, s2, s3]
    refine tk 9 17 (.pointer (some ⟨lb, 0, none⟩)) ?_
    try simp only [s1, s2, s3]
    refine tk 10 18 (.pointer (some ⟨lb, 0, none⟩)) ?_
    try simp only [s1, s2, s3]
    refine tk 11 19 (.pointer (some ⟨lb, 4, none⟩)) ?_
    try simp only [s1, s2, s3]
    refine tk 12 20 (.int .i64 L.last) ?_ (hv := by (intro V hV; have c4 := hV.c4; clear hV; go_simp; try rfl))
    try simp only [s1, s2, s3]
    refine wpAnyH_ready (rs := [8]) (by kernel_rfl) (by simp) ?_
    refine AllReadyH.cons rfl (fun K hK => ?_) ?_
    · rw [if_pos (by rfl)]
      go_simp
      go_at_call 53
      refine (begin_any L.gen hg _).mono ?_
      rintro e w9 ⟨rfl, rfl⟩
      dsimp only
      refine hK.out _ _ ((by assumption)) (fun hHeld => ?_)
      clear hK K
      try simp only [Act.put, s1, s2, s3]
      refine tk 13 21 (.int .i64 no) ?_ (hv := by (intro V hV; clear hV; go_simp; first | exact HWR.out | rw [HWR.out] | (rw [HWR.out]; rfl)))
      try simp only [s1, s2, s3]
      refine wpAnyH_ready (rs := [14]) (by kernel_rfl) (by simp) ?_
      refine AllReadyH.cons rfl (fun K hK => ?_) ?_
      · rw [if_pos (by rfl)]
        go_simp
        go_at_call 63
        refine (HCR.out _ (LSee.b (by assumption))).mono ?_
        rintro e w2 ⟨rfl, hb2⟩
        dsimp only
        refine hK.out _ _ (LSee.low (by assumption) hb2) (fun hHeld => ?_)
        clear hK K
        try simp only [Act.put, s1, s2, s3]
        refine tk 15 7 (.tuple #[.string T, .bool b]) ?_
        try simp only [s1, s2, s3]
        refine tk 16 23 (.string T) ?_
        try simp only [s1, s2, s3]
        refine tk 17 24 (.bool b) ?_
        try simp only [s1, s2, s3]
        refine tk 18 4 (.string T) ?_
        try simp only [s1, s2, s3]
        refine tk 19 5 (.bool b) ?_
        try simp only [s1, s2, s3]
        refine wpAnyH_done (by kernel_rfl) ?_ _
        have HB2 := Lib.hid (LSee.b hHeld)
        repeat clear hHeld
        clear hS0
        try dsimp only
        have HWn := Lib.hid (HW.out.low HB2.out)
        have c0 := HWn.out.l.cs.1
        have c1 := HWn.out.l.cs.2.1
        have c4 := HWn.out.l.cs.2.2.2.2.1
        have c5 := HWn.out.l.cs.2.2.2.2.2.1
        have hlt := HWn.out.l.lt
        go_wp2_with (fail)
        go_ret2
        rw [HP.out]
        exact ⟨rfl, WStep.same HW.out HB2.out⟩
      exact AllReadyH.nil
    exact AllReadyH.nil
end Go.Proofs.YtdmjbdecemajpaaDoor.D
