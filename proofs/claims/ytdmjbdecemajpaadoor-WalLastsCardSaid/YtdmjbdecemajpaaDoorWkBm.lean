/- Sync; the segment into which the next record goes. -/
import Derived.Test.YtdmjbdecemajpaaDoorWkAm
import Derived.Test.YtdmjbdecemajpaaDoorTk
import Derived.Test.YtdmjbdecemajpaaDoorShelf
namespace Go.Proofs.YtdmjbdecemajpaaDoor.D
set_option linter.unusedVariables false
set_option linter.unusedSimpArgs false
open Go.RowKit
theorem WStep.get {B db m lb : Nat} {s : DS} {L : LS} {v : Value} {w w' : World} (h : WStep B db m lb v w s L w') : ∃ v', WInv B db m lb s L v' w' ∧ WF db m lb v w v' w' := by
  obtain ⟨v', h1, h2, h3⟩ := h
  exact ⟨v', h1, h2, h3⟩
theorem WF.mk' {B db m lb : Nat} {s : DS} {L : LS} {v v' : Value} {w w' : World} (h : WF db m lb v w v' w') (hw : WInv B db m lb s L v' w') : WStep B db m lb v w s L w' := ⟨v', hw, h.foot, h.fr⟩
theorem WF.refl (db m lb : Nat) (v : Value) (w : World) : WF db m lb v w v w := ⟨fun _ h => .inl h, Fr.refl _ _⟩
theorem WF.trans {db m lb : Nat} {v v1 v2 : Value} {w w1 w2 : World} (h : WF db m lb v w v1 w1) (k : WF db m lb v1 w1 v2 w2) : WF db m lb v w v2 w2 := by
  refine ⟨fun j hj => ?_, h.fr.trans k.fr h.foot⟩
  rcases k.foot j hj with h4 | h4
  · exact h.foot j h4
  · exact .inr (Nat.le_trans h.fr.size h4)
/-- what the drawing regions read -/
structure LCel (db lb : Nat) (L : LS) (V : World) : Prop where
  c0 : V.cell? ⟨lb, 0, none⟩ = some (.pointer (some ⟨db, 0, none⟩))
  c1 : V.cell? ⟨lb, 1, none⟩ = some (.int .i64 L.gen)
  c4 : V.cell? ⟨lb, 4, none⟩ = some (.int .i64 L.last)
structure LSee (db lb : Nat) (L : LS) (w V : World) : Prop where
  b : Below w.heap.size w V
  c0 : V.cell? ⟨lb, 0, none⟩ = some (.pointer (some ⟨db, 0, none⟩))
  c1 : V.cell? ⟨lb, 1, none⟩ = some (.int .i64 L.gen)
  c4 : V.cell? ⟨lb, 4, none⟩ = some (.int .i64 L.last)
theorem LSee.low {db lb : Nat} {L : LS} {w V V' : World} (h : LSee db lb L w V) (hb : Below V.heap.size V V') : LSee db lb L w V' := ⟨G.bthen h.b hb, G.cell_below hb h.c0, G.cell_below hb h.c1, G.cell_below hb h.c4⟩
theorem WInv.see {B db m lb : Nat} {s : DS} {L L' : LS} {v : Value} {w : World} (h : WInv B db m lb s L' v w) (e1 : L'.gen = L.gen := by rfl) (e4 : L'.last = L.last := by rfl) : LCel db lb L w := ⟨h.l.cs.1, by rw [← e1]; exact h.l.cs.2.1, by rw [← e4]; exact h.l.cs.2.2.2.2.1⟩
/-- the log's Sync -/
def wsyE (s : DS) (L : LS) : Int := if L.over = true then 11 else if 0 < L.last then synE s (L.gen * 100 + L.last) else 0
def wsyS (s : DS) (L : LS) : DS := if L.over = true then s else if 0 < L.last then synS s (L.gen * 100 + L.last) else s
def endL (L : LS) (E : Int) : LS := { L with over := L.over || decide (E ≠ 0) }
def wsyL (s : DS) (L : LS) : LS := if L.over = true then L else if 0 < L.last then (if synE s (L.gen * 100 + L.last) ≠ 0 then endL L (synE s (L.gen * 100 + L.last)) else { endL L (synE s (L.gen * 100 + L.last)) with pend := 0 }) else { L with pend := 0 }
set_option maxRecDepth 100000 in
set_option maxHeartbeats 4000000 in
theorem Sync_any (B db m lb : Nat) (s : DS) (L : LS) (v : Value) (k : Nat) (w : World) (h : WInv B db m lb s L v w) (hO : Okk s k) (hk : k ≤ 900000) (hg : 0 ≤ L.gen ∧ L.gen ≤ 100000) (hl : 0 ≤ L.last ∧ L.last ≤ 1000) :
    Calls Tryd.prog 34 #[.pointer (some ⟨lb, 0, none⟩)] w fun e w' => e = .returned (.int .i64 (wsyE s L)) ∧ WStep B db m lb v w (wsyS s L) (wsyL s L) w' := by
  have hcs := h.l.cs
  have c0 := hcs.1
  have c1 := hcs.2.1
  have c4 := hcs.2.2.2.2.1
  have c5 := hcs.2.2.2.2.2.1
  have c6 := hcs.2.2.2.2.2.2
  have f5 := h.l.free 5
  have hlt := h.l.lt
  cases ho : L.over
  · rw [ho] at c6
    by_cases hl0 : 0 < L.last
    · obtain ⟨no, hno⟩ : ∃ no, no = L.gen * 100 + L.last := ⟨_, rfl⟩
      have HWR : Hid (IntKind.i64.wrap (L.gen * 100 + L.last) = no) := Lib.hid (by rw [IntKind.wrap_i64]; omega)
      have hP : wsyE s L = synE s no ∧ wsyS s L = synS s no ∧ wsyL s L = (if synE s no ≠ 0 then endL L (synE s no) else { endL L (synE s no) with pend := 0 }) := by
        have ho' : ¬ L.over = true := by rw [ho]; decide
        unfold wsyE wsyS wsyL
        rw [if_neg ho', if_neg ho', if_neg ho', if_pos hl0, if_pos hl0, if_pos hl0, hno]
        exact ⟨rfl, rfl, rfl⟩
      obtain ⟨E, hE⟩ : ∃ E, synE s no = E := ⟨_, rfl⟩
      obtain ⟨s1, hs1⟩ : ∃ s1, synS s no = s1 := ⟨_, rfl⟩
      have HWd := Lib.hid (h.low (G.bdrewN (Below.refl _ _) 1))
      have hcy := sync_any B db m s no (w.drewN 1) HWd.out.t.d (hO.bd (by omega))
      rw [hE, hs1] at hcy hP
      have CY : Hid (Calls Tryd.prog 59 #[.pointer (some ⟨db, 0, none⟩), .int .i64 no] w.drew fun e w' => e = .returned (.int .i64 E) ∧ DStep B db m w.drew s1 w') := Lib.hid hcy
      have HF0 : Hid (WF db m lb v w v w.drew) := Lib.hid ((WF.refl db m lb v w).low (G.bdrewN (Below.refl _ _) 1))
      have HP := Lib.hid hP
      have HL0 := Lib.hid hl0
      clear h hO hcs hno hP hE hs1 hcy f5
      go_enter Tryd.func34, Tryd.ntmps34
      go_upto_region 6 with (fail)
      refine wp_region_held_drew (S := LCel db lb L) (by kernel_rfl) ⟨c0, c1, c4⟩ (fun hS0 => ?_)
      refine tk 0 18 (.pointer (some ⟨lb, 0, none⟩)) ?_
      try simp only [s1, s2, s3]
      refine tk 1 19 (.pointer (some ⟨lb, 0, none⟩)) ?_
      try simp only [s1, s2, s3]
      refine tk 2 20 (.pointer (some ⟨lb, 0, none⟩)) ?_
      try simp only [s1, s2, s3]
      refine tk 3 21 (.pointer (some ⟨lb, 0, none⟩)) ?_
      try simp only [s1, s2, s3]
      refine tk 4 22 (.pointer (some ⟨db, 0, none⟩)) ?_ (hv := by (intro V hV; have c0 := hV.c0; clear hV; go_simp; try rfl))
      try simp only [s1, s2, s3]
      refine tk 5 23 (.pointer (some ⟨lb, 0, none⟩)) ?_
      try simp only [s1, s2, s3]
      refine tk 6 24 (.pointer (some ⟨lb, 0, none⟩)) ?_
      try simp only [s1, s2, s3]
      refine tk 7 25 (.pointer (some ⟨lb, 1, none⟩)) ?_
      try simp only [s1, s2, s3]
      refine tk 8 26 (.int .i64 L.gen) ?_ (hv := by (intro V hV; have c1 := hV.c1; clear hV; go_simp; try rfl))
      try simp only [s1, s2, s3]
      refine tk 10 28 (.pointer (some ⟨lb, 0, none⟩)) ?_
      try simp only [s1, s2, s3]
      refine tk 11 29 (.pointer (some ⟨lb, 0, none⟩)) ?_
      try simp only [s1, s2, s3]
      refine tk 12 30 (.pointer (some ⟨lb, 4, none⟩)) ?_
      try simp only [s1, s2, s3]
      refine tk 13 31 (.int .i64 L.last) ?_ (hv := by (intro V hV; have c4 := hV.c4; clear hV; go_simp; try rfl))
      try simp only [s1, s2, s3]
      refine wpAnyH_ready (rs := [9]) (by kernel_rfl) (by simp) ?_
      refine AllReadyH.cons rfl (fun K hK => ?_) ?_
      · rw [if_pos (by rfl)]
        go_simp
        go_at_call 53
        refine (begin_any L.gen hg _).mono ?_
        rintro e w9 ⟨rfl, rfl⟩
        dsimp only
        refine hK.out _ _ ((by assumption)) (fun hHeld => ?_)
        clear hK K
        try simp only [Act.put, s1, s2, s3]
        refine tk 14 32 (.int .i64 no) ?_ (hv := by (intro V hV; clear hV; go_simp; first | exact HWR.out | rw [HWR.out] | (rw [HWR.out]; rfl)))
        try simp only [s1, s2, s3]
        refine wpAnyH_ready (rs := [15]) (by kernel_rfl) (by simp) ?_
        refine AllReadyH.cons rfl (fun K hK => ?_) ?_
        · rw [if_pos (by rfl)]
          go_simp
          go_at_call 59
          refine CY.out.mono ?_
          rintro e w2 ⟨rfl, hs2⟩
          have HW2 := Lib.hid (WInv.dstep (HWd.out) hs2)
          have HS2 := Lib.hid hs2
          clear hs2
          dsimp only
          refine hK.out _ _ (HW2.out.see) (fun hHeld => ?_)
          clear hK K
          try simp only [Act.put, s1, s2, s3]
          refine wpAnyH_ready (rs := [16]) (by kernel_rfl) (by simp) ?_
          refine AllReadyH.cons rfl (fun K hK => ?_) ?_
          · rw [if_pos (by rfl)]
            go_simp
            go_at_call 57
            refine (end_any B db m lb s1 L v E _ HW2.out).mono ?_
            rintro e w3 ⟨rfl, hs3⟩
            obtain ⟨v3, hw3, hf3⟩ := hs3.get
            have HW3 := Lib.hid hw3
            have HF3 := Lib.hid hf3
            clear hs3 hw3 hf3
            dsimp only
            refine hK.out _ _ (HW3.out.see) (fun hHeld => ?_)
            clear hK K
            try simp only [Act.put, s1, s2, s3]
            refine tk 17 3 (.int .i64 E) ?_
            try simp only [s1, s2, s3]
            refine wpAnyH_done (by kernel_rfl) ?_ _
            repeat clear hHeld
            clear hS0
            try dsimp only
            have HF4 := Lib.hid (((HF0.out).disk HS2.out).trans HF3.out)
            clear c0 c1 c4 c5 c6 hlt
            have c5 := HW3.out.l.cs.2.2.2.2.2.1
            have f5 := HW3.out.l.free 5
            have hlt := HW3.out.l.lt
            by_cases hE0 : E = 0
            · subst hE0
              have HZ := Lib.hid (HF4.out.cat (HW3.out.seti (L' := { endL L 0 with pend := 0 }) 5 (.int .i64 0) rfl rfl))
              go_wp2_with (fail)
              go_ret
              rw [HP.out.1, HP.out.2.1, HP.out.2.2, if_neg (by decide)]
              exact ⟨rfl, HZ.out⟩
            · have hE1 : (E != 0) = true := by simpa using hE0
              have HE0 := Lib.hid hE0
              clear hE0
              go_wp2_with (fail)
              go_ret
              rw [HP.out.1, HP.out.2.1, HP.out.2.2, if_pos HE0.out]
              exact ⟨rfl, HF4.out.mk' HW3.out⟩
          exact AllReadyH.nil
        exact AllReadyH.nil
      exact AllReadyH.nil
    · have hP : wsyE s L = 0 ∧ wsyS s L = s ∧ wsyL s L = { L with pend := 0 } := by
        have ho' : ¬ L.over = true := by rw [ho]; decide
        unfold wsyE wsyS wsyL
        rw [if_neg ho', if_neg ho', if_neg ho', if_neg hl0, if_neg hl0, if_neg hl0]
        exact ⟨rfl, rfl, rfl⟩
      have HP := Lib.hid hP
      have HZ := Lib.hid (h.seti (L' := { L with pend := 0 }) 5 (.int .i64 0) rfl rfl)
      clear h hO hcs hP ho
      go_enter Tryd.func34, Tryd.ntmps34
      go_wp2
      go_ret
      rw [HP.out.1, HP.out.2.1, HP.out.2.2]
      exact ⟨rfl, HZ.out⟩
  · rw [ho] at c6
    have hP : wsyE s L = 11 ∧ wsyS s L = s ∧ wsyL s L = L := by
      unfold wsyE wsyS wsyL
      rw [if_pos ho, if_pos ho, if_pos ho]
      exact ⟨rfl, rfl, rfl⟩
    have HP := Lib.hid hP
    have HZ := Lib.hid (WStep.same h (Below.refl _ _))
    clear h hO hcs hP ho
    go_enter Tryd.func34, Tryd.ntmps34
    go_wp2
    go_ret
    rw [HP.out.1, HP.out.2.1, HP.out.2.2]
    exact ⟨rfl, HZ.out⟩
/-- where the next record goes -/
structure RR where
  k : Int
  e : Int
  s : DS
  L : LS
def roomP (s : DS) (L : LS) : RR :=
  if 0 < L.last ∧ (readT s (L.gen * 100 + L.last)).size < 600 then ⟨L.last, 0, s, L⟩
  else if L.last = 99 then ⟨0, 9, s, L⟩
  else if 0 < L.last then (if synE s (L.gen * 100 + L.last) ≠ 0 then ⟨0, synE s (L.gen * 100 + L.last), synS s (L.gen * 100 + L.last), endL L (synE s (L.gen * 100 + L.last))⟩
    else ⟨L.last + 1, 0, synS s (L.gen * 100 + L.last), { endL L (synE s (L.gen * 100 + L.last)) with pend := 0 }⟩)
  else ⟨L.last + 1, 0, s, L⟩
set_option maxRecDepth 100000 in
set_option maxHeartbeats 8000000 in
theorem room_any (B db m lb : Nat) (s : DS) (L : LS) (v : Value) (k : Nat) (w : World) (h : WInv B db m lb s L v w) (hO : Okk s k) (hk : k ≤ 900000) (hg : 0 ≤ L.gen ∧ L.gen ≤ 100000) (hl : 0 ≤ L.last ∧ L.last ≤ 1000) :
    Calls Tryd.prog 56 #[.pointer (some ⟨lb, 0, none⟩)] w fun e w' => e = .returned (.tuple #[.int .i64 (roomP s L).k, .int .i64 (roomP s L).e]) ∧ WStep B db m lb v w (roomP s L).s (roomP s L).L w' := by
  have hcs := h.l.cs
  have c0 := hcs.1
  have c1 := hcs.2.1
  have c4 := hcs.2.2.2.2.1
  have hlt := h.l.lt
  obtain ⟨no, hno⟩ : ∃ no, no = L.gen * 100 + L.last := ⟨_, rfl⟩
  have HWR : Hid (IntKind.i64.wrap (L.gen * 100 + L.last) = no) := Lib.hid (by rw [IntKind.wrap_i64]; omega)
  have hcr : ∀ V, Below w.heap.size w V → Calls Tryd.prog 63 #[.pointer (some ⟨db, 0, none⟩), .int .i64 no] V fun e w' => e = .returned (.tuple #[.string (readT s no), .bool (readB s no)]) ∧ Below V.heap.size V w' := fun V hV => read_any B db m s no V (h.low hV).t.d
  have hTs : (readT s no).size ≤ 1048576 := by
    unfold readT
    split
    · decide
    · exact (fl_ok hO.fl no).2
  have hP : roomP s L = (if 0 < L.last ∧ (readT s no).size < 600 then ⟨L.last, 0, s, L⟩ else if L.last = 99 then ⟨0, 9, s, L⟩
      else if 0 < L.last then (if synE s no ≠ 0 then ⟨0, synE s no, synS s no, endL L (synE s no)⟩ else ⟨L.last + 1, 0, synS s no, { endL L (synE s no) with pend := 0 }⟩) else ⟨L.last + 1, 0, s, L⟩) := by
    rw [roomP, hno]
  obtain ⟨T, hT⟩ : ∃ T, readT s no = T := ⟨_, rfl⟩
  obtain ⟨b, hb⟩ : ∃ b, readB s no = b := ⟨_, rfl⟩
  rw [hT] at hTs hP
  simp only [hT, hb] at hcr
  have HCR := Lib.hid hcr
  have HP := Lib.hid hP
  have HW := Lib.hid h
  have HO := Lib.hid hO
  have HCY : Hid (∀ V, WInv B db m lb s L v V → Calls Tryd.prog 59 #[.pointer (some ⟨db, 0, none⟩), .int .i64 no] V fun e w' => e = .returned (.int .i64 (synE s no)) ∧ DStep B db m V (synS s no) w') := Lib.hid (fun V hV => sync_any B db m s no V hV.t.d (hO.bd (by omega)))
  clear h hO hcs hno hcr hP hT hb
  by_cases hl0 : 0 < L.last
  · have hl1 : decide (0 < L.last) = true := decide_eq_true hl0
    by_cases hsz : T.size < 600
    · have hsz1 : decide ((T.size : Int) < 600) = true := decide_eq_true (by omega)
      have hP := HP.out
      rw [if_pos ⟨hl0, hsz⟩] at hP
      replace HP := Lib.hid hP
      clear hP
      go_enter Tryd.func56, Tryd.ntmps56
      go_upto_region 1 with (fail)
      refine wp_region_held_drew (S := LSee db lb L w) (by kernel_rfl) ⟨G.bdrew (Below.refl _ _), c0, c1, c4⟩ (fun hS0 => ?_)
      refine tk 0 8 (.pointer (some ⟨lb, 0, none⟩)) ?_
      try simp only [s1, s2, s3]
      refine tk 1 9 (.pointer (some ⟨lb, 0, none⟩)) ?_
      try simp only [s1, s2, s3]
      refine tk 2 10 (.pointer (some ⟨lb, 0, none⟩)) ?_
      try simp only [s1, s2, s3]
      refine tk 3 11 (.pointer (some ⟨db, 0, none⟩)) ?_ (hv := by (intro V hV; have c0 := hV.c0; clear hV; go_simp; try rfl))
      try simp only [s1, s2, s3]
      refine tk 4 12 (.pointer (some ⟨lb, 0, none⟩)) ?_
      try simp only [s1, s2, s3]
      refine tk 5 13 (.pointer (some ⟨lb, 0, none⟩)) ?_
      try simp only [s1, s2, s3]
      refine tk 6 14 (.pointer (some ⟨lb, 1, none⟩)) ?_
      try simp only [s1, s2, s3]
      refine tk 7 15 (.int .i64 L.gen) ?_ (hv := by (intro V hV; have c1 := hV.c1; clear hV; go_simp; try rfl))
      try simp only [s1, s2, s3]
      refine tk 9 17 (.pointer (some ⟨lb, 0, none⟩)) ?_
      try simp only [s1, s2, s3]
      refine tk 10 18 (.pointer (some ⟨lb, 0, none⟩)) ?_
      try simp only [s1, s2, s3]
      refine tk 11 19 (.pointer (some ⟨lb, 4, none⟩)) ?_
      try simp only [s1, s2, s3]
      refine tk 12 20 (.int .i64 L.last) ?_ (hv := by (intro V hV; have c4 := hV.c4; clear hV; go_simp; try rfl))
      try simp only [s1, s2, s3]
      refine wpAnyH_ready (rs := [8]) (by kernel_rfl) (by simp) ?_
      refine AllReadyH.cons rfl (fun K hK => ?_) ?_
      · rw [if_pos (by rfl)]
        go_simp
        go_at_call 53
        refine (begin_any L.gen hg _).mono ?_
        rintro e w9 ⟨rfl, rfl⟩
        dsimp only
        refine hK.out _ _ ((by assumption)) (fun hHeld => ?_)
        clear hK K
        try simp only [Act.put, s1, s2, s3]
        refine tk 13 21 (.int .i64 no) ?_ (hv := by (intro V hV; clear hV; go_simp; first | exact HWR.out | rw [HWR.out] | (rw [HWR.out]; rfl)))
        try simp only [s1, s2, s3]
        refine wpAnyH_ready (rs := [14]) (by kernel_rfl) (by simp) ?_
        refine AllReadyH.cons rfl (fun K hK => ?_) ?_
        · rw [if_pos (by rfl)]
          go_simp
          go_at_call 63
          refine (HCR.out _ (LSee.b (by assumption))).mono ?_
          rintro e w2 ⟨rfl, hb2⟩
          dsimp only
          refine hK.out _ _ (LSee.low (by assumption) hb2) (fun hHeld => ?_)
          clear hK K
          try simp only [Act.put, s1, s2, s3]
          refine tk 15 7 (.tuple #[.string T, .bool b]) ?_
          try simp only [s1, s2, s3]
          refine tk 16 23 (.string T) ?_
          try simp only [s1, s2, s3]
          refine tk 17 24 (.bool b) ?_
          try simp only [s1, s2, s3]
          refine tk 18 4 (.string T) ?_
          try simp only [s1, s2, s3]
          refine tk 19 5 (.bool b) ?_
          try simp only [s1, s2, s3]
          refine wpAnyH_done (by kernel_rfl) ?_ _
          have HB2 := Lib.hid (LSee.b hHeld)
          repeat clear hHeld
          clear hS0
          try dsimp only
          have HWn := Lib.hid (HW.out.low HB2.out)
          have c0 := HWn.out.l.cs.1
          have c1 := HWn.out.l.cs.2.1
          have c4 := HWn.out.l.cs.2.2.2.2.1
          have c5 := HWn.out.l.cs.2.2.2.2.2.1
          have hlt := HWn.out.l.lt
          go_wp2_with (fail)
          go_ret2
          rw [HP.out]
          exact ⟨rfl, WStep.same HW.out HB2.out⟩
        exact AllReadyH.nil
      exact AllReadyH.nil
    · have hsz1 : decide ((T.size : Int) < 600) = false := decide_eq_false (by omega)
      have hP := HP.out
      rw [if_neg (fun h => hsz h.2)] at hP
      by_cases h99 : L.last = 99
      · have h991 : (L.last == 99) = true := by simpa using h99
        rw [if_pos h99] at hP
        replace HP := Lib.hid hP
        have H991 := Lib.hid h991
        clear hP h99 h991
        go_enter Tryd.func56, Tryd.ntmps56
        go_upto_region 1 with (fail)
        refine wp_region_held_drew (S := LSee db lb L w) (by kernel_rfl) ⟨G.bdrew (Below.refl _ _), c0, c1, c4⟩ (fun hS0 => ?_)
        refine tk 0 8 (.pointer (some ⟨lb, 0, none⟩)) ?_
        try simp only [s1, s2, s3]
        refine tk 1 9 (.pointer (some ⟨lb, 0, none⟩)) ?_
        try simp only [s1, s2, s3]
        refine tk 2 10 (.pointer (some ⟨lb, 0, none⟩)) ?_
        try simp only [s1, s2, s3]
        refine tk 3 11 (.pointer (some ⟨db, 0, none⟩)) ?_ (hv := by (intro V hV; have c0 := hV.c0; clear hV; go_simp; try rfl))
        try simp only [s1, s2, s3]
        refine tk 4 12 (.pointer (some ⟨lb, 0, none⟩)) ?_
        try simp only [s1, s2, s3]
        refine tk 5 13 (.pointer (some ⟨lb, 0, none⟩)) ?_
        try simp only [s1, s2, s3]
        refine tk 6 14 (.pointer (some ⟨lb, 1, none⟩)) ?_
        try simp only [s1, s2, s3]
        refine tk 7 15 (.int .i64 L.gen) ?_ (hv := by (intro V hV; have c1 := hV.c1; clear hV; go_simp; try rfl))
        try simp only [s1, s2, s3]
        refine tk 9 17 (.pointer (some ⟨lb, 0, none⟩)) ?_
        try simp only [s1, s2, s3]
        refine tk 10 18 (.pointer (some ⟨lb, 0, none⟩)) ?_
        try simp only [s1, s2, s3]
        refine tk 11 19 (.pointer (some ⟨lb, 4, none⟩)) ?_
        try simp only [s1, s2, s3]
        refine tk 12 20 (.int .i64 L.last) ?_ (hv := by (intro V hV; have c4 := hV.c4; clear hV; go_simp; try rfl))
        try simp only [s1, s2, s3]
        refine wpAnyH_ready (rs := [8]) (by kernel_rfl) (by simp) ?_
        refine AllReadyH.cons rfl (fun K hK => ?_) ?_
        · rw [if_pos (by rfl)]
          go_simp
          go_at_call 53
          refine (begin_any L.gen hg _).mono ?_
          rintro e w9 ⟨rfl, rfl⟩
          dsimp only
          refine hK.out _ _ ((by assumption)) (fun hHeld => ?_)
          clear hK K
          try simp only [Act.put, s1, s2, s3]
          refine tk 13 21 (.int .i64 no) ?_ (hv := by (intro V hV; clear hV; go_simp; first | exact HWR.out | rw [HWR.out] | (rw [HWR.out]; rfl)))
          try simp only [s1, s2, s3]
          refine wpAnyH_ready (rs := [14]) (by kernel_rfl) (by simp) ?_
          refine AllReadyH.cons rfl (fun K hK => ?_) ?_
          · rw [if_pos (by rfl)]
            go_simp
            go_at_call 63
            refine (HCR.out _ (LSee.b (by assumption))).mono ?_
            rintro e w2 ⟨rfl, hb2⟩
            dsimp only
            refine hK.out _ _ (LSee.low (by assumption) hb2) (fun hHeld => ?_)
            clear hK K
            try simp only [Act.put, s1, s2, s3]
            refine tk 15 7 (.tuple #[.string T, .bool b]) ?_
            try simp only [s1, s2, s3]
            refine tk 16 23 (.string T) ?_
            try simp only [s1, s2, s3]
            refine tk 17 24 (.bool b) ?_
            try simp only [s1, s2, s3]
            refine tk 18 4 (.string T) ?_
            try simp only [s1, s2, s3]
            refine tk 19 5 (.bool b) ?_
            try simp only [s1, s2, s3]
            refine wpAnyH_done (by kernel_rfl) ?_ _
            have HB2 := Lib.hid (LSee.b hHeld)
            repeat clear hHeld
            clear hS0
            try dsimp only
            have h991 := H991.out
            have HWn := Lib.hid (HW.out.low HB2.out)
            have c0 := HWn.out.l.cs.1
            have c1 := HWn.out.l.cs.2.1
            have c4 := HWn.out.l.cs.2.2.2.2.1
            have c5 := HWn.out.l.cs.2.2.2.2.2.1
            have hlt := HWn.out.l.lt
            go_wp2_with (fail)
            go_ret2
            rw [HP.out]
            exact ⟨rfl, WStep.same HW.out HB2.out⟩
          exact AllReadyH.nil
        exact AllReadyH.nil
      · have h991 : (L.last == 99) = false := by simpa using h99
        rw [if_neg h99, if_pos hl0] at hP
        obtain ⟨E, hE⟩ : ∃ E, synE s no = E := ⟨_, rfl⟩
        obtain ⟨s1, hs1⟩ : ∃ s1, synS s no = s1 := ⟨_, rfl⟩
        have hcy := HCY.out
        simp only [hE, hs1] at hcy hP
        replace HCY := Lib.hid hcy
        replace HP := Lib.hid hP
        clear hP hcy hE hs1
        go_enter Tryd.func56, Tryd.ntmps56
        go_upto_region 1 with (fail)
        refine wp_region_held_drew (S := LSee db lb L w) (by kernel_rfl) ⟨G.bdrew (Below.refl _ _), c0, c1, c4⟩ (fun hS0 => ?_)
        refine tk 0 8 (.pointer (some ⟨lb, 0, none⟩)) ?_
        try simp only [s1, s2, s3]
        refine tk 1 9 (.pointer (some ⟨lb, 0, none⟩)) ?_
        try simp only [s1, s2, s3]
        refine tk 2 10 (.pointer (some ⟨lb, 0, none⟩)) ?_
        try simp only [s1, s2, s3]
        refine tk 3 11 (.pointer (some ⟨db, 0, none⟩)) ?_ (hv := by (intro V hV; have c0 := hV.c0; clear hV; go_simp; try rfl))
        try simp only [s1, s2, s3]
        refine tk 4 12 (.pointer (some ⟨lb, 0, none⟩)) ?_
        try simp only [s1, s2, s3]
        refine tk 5 13 (.pointer (some ⟨lb, 0, none⟩)) ?_
        try simp only [s1, s2, s3]
        refine tk 6 14 (.pointer (some ⟨lb, 1, none⟩)) ?_
        try simp only [s1, s2, s3]
        refine tk 7 15 (.int .i64 L.gen) ?_ (hv := by (intro V hV; have c1 := hV.c1; clear hV; go_simp; try rfl))
        try simp only [s1, s2, s3]
        refine tk 9 17 (.pointer (some ⟨lb, 0, none⟩)) ?_
        try simp only [s1, s2, s3]
        refine tk 10 18 (.pointer (some ⟨lb, 0, none⟩)) ?_
        try simp only [s1, s2, s3]
        refine tk 11 19 (.pointer (some ⟨lb, 4, none⟩)) ?_
        try simp only [s1, s2, s3]
        refine tk 12 20 (.int .i64 L.last) ?_ (hv := by (intro V hV; have c4 := hV.c4; clear hV; go_simp; try rfl))
        try simp only [s1, s2, s3]
        refine wpAnyH_ready (rs := [8]) (by kernel_rfl) (by simp) ?_
        refine AllReadyH.cons rfl (fun K hK => ?_) ?_
        · rw [if_pos (by rfl)]
          go_simp
          go_at_call 53
          refine (begin_any L.gen hg _).mono ?_
          rintro e w9 ⟨rfl, rfl⟩
          dsimp only
          refine hK.out _ _ ((by assumption)) (fun hHeld => ?_)
          clear hK K
          try simp only [Act.put, s1, s2, s3]
          refine tk 13 21 (.int .i64 no) ?_ (hv := by (intro V hV; clear hV; go_simp; first | exact HWR.out | rw [HWR.out] | (rw [HWR.out]; rfl)))
          try simp only [s1, s2, s3]
          refine wpAnyH_ready (rs := [14]) (by kernel_rfl) (by simp) ?_
          refine AllReadyH.cons rfl (fun K hK => ?_) ?_
          · rw [if_pos (by rfl)]
            go_simp
            go_at_call 63
            refine (HCR.out _ (LSee.b (by assumption))).mono ?_
            rintro e w2 ⟨rfl, hb2⟩
            dsimp only
            refine hK.out _ _ (LSee.low (by assumption) hb2) (fun hHeld => ?_)
            clear hK K
            try simp only [Act.put, s1, s2, s3]
            refine tk 15 7 (.tuple #[.string T, .bool b]) ?_
            try simp only [s1, s2, s3]
            refine tk 16 23 (.string T) ?_
            try simp only [s1, s2, s3]
            refine tk 17 24 (.bool b) ?_
            try simp only [s1, s2, s3]
            refine tk 18 4 (.string T) ?_
            try simp only [s1, s2, s3]
            refine tk 19 5 (.bool b) ?_
            try simp only [s1, s2, s3]
            refine wpAnyH_done (by kernel_rfl) ?_ _
            have HB2 := Lib.hid (LSee.b hHeld)
            repeat clear hHeld
            clear hS0
            try dsimp only
            have HWn := Lib.hid (HW.out.low HB2.out)
            have c0 := HWn.out.l.cs.1
            have c1 := HWn.out.l.cs.2.1
            have c4 := HWn.out.l.cs.2.2.2.2.1
            have c5 := HWn.out.l.cs.2.2.2.2.2.1
            have hlt := HWn.out.l.lt
            go_upto_region 7 with (fail)
            have HWd := Lib.hid (HWn.out.low (G.bdrewN (Below.refl _ _) 1))
            have CY : Hid (Calls Tryd.prog 59 #[.pointer (some ⟨db, 0, none⟩), .int .i64 no] w2.drew fun e w' => e = .returned (.int .i64 E) ∧ DStep B db m w2.drew s1 w') := Lib.hid (HCY.out _ HWd.out)
            have HF0 : Hid (WF db m lb v w v w2.drew) := Lib.hid ((WF.refl db m lb v w).low (G.bdrewN HB2.out 1))
            clear HWd
            have HWd : Hid (WInv B db m lb s L v w2.drew) := Lib.hid (HWn.out.low (G.bdrewN (Below.refl _ _) 1))
            generalize hw5 : w2 = w5 at *
            clear hw5
            refine wp_region_held_drew (S := LCel db lb L) (by kernel_rfl) ⟨c0, c1, c4⟩ (fun hS0 => ?_)
            refine tk 0 52 (.pointer (some ⟨lb, 0, none⟩)) ?_
            try simp only [s1, s2, s3]
            refine tk 1 53 (.pointer (some ⟨lb, 0, none⟩)) ?_
            try simp only [s1, s2, s3]
            refine tk 2 54 (.pointer (some ⟨lb, 0, none⟩)) ?_
            try simp only [s1, s2, s3]
            refine tk 3 55 (.pointer (some ⟨lb, 0, none⟩)) ?_
            try simp only [s1, s2, s3]
            refine tk 4 56 (.pointer (some ⟨db, 0, none⟩)) ?_ (hv := by (intro V hV; have c0 := hV.c0; clear hV; go_simp; try rfl))
            try simp only [s1, s2, s3]
            refine tk 5 57 (.pointer (some ⟨lb, 0, none⟩)) ?_
            try simp only [s1, s2, s3]
            refine tk 6 58 (.pointer (some ⟨lb, 0, none⟩)) ?_
            try simp only [s1, s2, s3]
            refine tk 7 59 (.pointer (some ⟨lb, 1, none⟩)) ?_
            try simp only [s1, s2, s3]
            refine tk 8 60 (.int .i64 L.gen) ?_ (hv := by (intro V hV; have c1 := hV.c1; clear hV; go_simp; try rfl))
            try simp only [s1, s2, s3]
            refine tk 10 62 (.pointer (some ⟨lb, 0, none⟩)) ?_
            try simp only [s1, s2, s3]
            refine tk 11 63 (.pointer (some ⟨lb, 0, none⟩)) ?_
            try simp only [s1, s2, s3]
            refine tk 12 64 (.pointer (some ⟨lb, 4, none⟩)) ?_
            try simp only [s1, s2, s3]
            refine tk 13 65 (.int .i64 L.last) ?_ (hv := by (intro V hV; have c4 := hV.c4; clear hV; go_simp; try rfl))
            try simp only [s1, s2, s3]
            refine wpAnyH_ready (rs := [9]) (by kernel_rfl) (by simp) ?_
            refine AllReadyH.cons rfl (fun K hK => ?_) ?_
            · rw [if_pos (by rfl)]
              go_simp
              go_at_call 53
              refine (begin_any L.gen hg _).mono ?_
              rintro e w8 ⟨rfl, rfl⟩
              dsimp only
              refine hK.out _ _ ((by assumption)) (fun hHeld => ?_)
              clear hK K
              try simp only [Act.put, s1, s2, s3]
              refine tk 14 66 (.int .i64 no) ?_ (hv := by (intro V hV; clear hV; go_simp; first | exact HWR.out | rw [HWR.out] | (rw [HWR.out]; rfl)))
              try simp only [s1, s2, s3]
              refine wpAnyH_ready (rs := [15]) (by kernel_rfl) (by simp) ?_
              refine AllReadyH.cons rfl (fun K hK => ?_) ?_
              · rw [if_pos (by rfl)]
                go_simp
                go_at_call 59
                refine CY.out.mono ?_
                rintro e w6 ⟨rfl, hs2⟩
                have HW2 := Lib.hid (WInv.dstep (HWd.out) hs2)
                have HS2 := Lib.hid hs2
                clear hs2
                dsimp only
                refine hK.out _ _ (HW2.out.see) (fun hHeld => ?_)
                clear hK K
                try simp only [Act.put, s1, s2, s3]
                refine wpAnyH_ready (rs := [16]) (by kernel_rfl) (by simp) ?_
                refine AllReadyH.cons rfl (fun K hK => ?_) ?_
                · rw [if_pos (by rfl)]
                  go_simp
                  go_at_call 57
                  refine (end_any B db m lb s1 L v E _ HW2.out).mono ?_
                  rintro e w3 ⟨rfl, hs3⟩
                  obtain ⟨v3, hw3, hf3⟩ := hs3.get
                  have HW3 := Lib.hid hw3
                  have HF3 := Lib.hid hf3
                  clear hs3 hw3 hf3
                  dsimp only
                  refine hK.out _ _ (HW3.out.see) (fun hHeld => ?_)
                  clear hK K
                  try simp only [Act.put, s1, s2, s3]
                  refine tk 17 6 (.int .i64 E) ?_
                  try simp only [s1, s2, s3]
                  refine wpAnyH_done (by kernel_rfl) ?_ _
                  repeat clear hHeld
                  clear hS0
                  try dsimp only
                  have HF4 := Lib.hid (((HF0.out).disk HS2.out).trans HF3.out)
                  clear c0 c1 c4 c5 hlt
                  have c4 := HW3.out.l.cs.2.2.2.2.1
                  have c5 := HW3.out.l.cs.2.2.2.2.2.1
                  have f5 := HW3.out.l.free 5
                  have hlt := HW3.out.l.lt
                  by_cases hE0 : E = 0
                  · subst hE0
                    have hz := HF4.out.cat (HW3.out.seti (L' := { endL L 0 with pend := 0 }) 5 (.int .i64 0) rfl rfl)
                    go_upto_region 11 with (fail)
                    generalize w3.setCell ⟨lb, 5, none⟩ (.int .i64 0) = w4 at *
                    obtain ⟨v4, hw4, hf4⟩ := hz.get
                    clear c4 c5 f5 hlt
                    have c4 := hw4.l.cs.2.2.2.2.1
                    replace c4 : w4.cell? ⟨lb, 4, none⟩ = some (.int .i64 L.last) := c4
                    have hlt := hw4.l.lt
                    have HZ := Lib.hid hz
                    clear hw4 hf4 hz
                    go_wp2_with (fail)
                    go_ret2
                    rw [HP.out, if_neg (show ¬ ((0 : Int) ≠ 0) by decide)]
                    exact ⟨rfl, HZ.out⟩
                  · have hE1 : (E != 0) = true := by simpa using hE0
                    have HE0 := Lib.hid hE0
                    clear hE0
                    go_wp2_with (fail)
                    go_ret2
                    rw [HP.out, if_pos HE0.out]
                    exact ⟨rfl, HF4.out.mk' HW3.out⟩
                exact AllReadyH.nil
              exact AllReadyH.nil
            exact AllReadyH.nil
          exact AllReadyH.nil
        exact AllReadyH.nil
  · have hl1 : decide (0 < L.last) = false := decide_eq_false hl0
    have h991 : (L.last == 99) = false := by simp; omega
    have hP := HP.out
    rw [if_neg (fun h => hl0 h.1), if_neg (by omega), if_neg hl0] at hP
    replace HP := Lib.hid hP
    clear hP
    go_enter Tryd.func56, Tryd.ntmps56
    go_upto_region 1 with (fail)
    refine wp_region_held_drew (S := LSee db lb L w) (by kernel_rfl) ⟨G.bdrew (Below.refl _ _), c0, c1, c4⟩ (fun hS0 => ?_)
    refine tk 0 8 (.pointer (some ⟨lb, 0, none⟩)) ?_
    try simp only [s1, s2, s3]
    refine tk 1 9 (.pointer (some ⟨lb, 0, none⟩)) ?_
    try simp only [s1, s2, s3]
    refine tk 2 10 (.pointer (some ⟨lb, 0, none⟩)) ?_
    try simp only [s1, s2, s3]
    refine tk 3 11 (.pointer (some ⟨db, 0, none⟩)) ?_ (hv := by (intro V hV; have c0 := hV.c0; clear hV; go_simp; try rfl))
    try simp only [s1, s2, s3]
    refine tk 4 12 (.pointer (some ⟨lb, 0, none⟩)) ?_
    try simp only [s1, s2, s3]
    refine tk 5 13 (.pointer (some ⟨lb, 0, none⟩)) ?_
    try simp only [s1, s2, s3]
    refine tk 6 14 (.pointer (some ⟨lb, 1, none⟩)) ?_
    try simp only [s1, s2, s3]
    refine tk 7 15 (.int .i64 L.gen) ?_ (hv := by (intro V hV; have c1 := hV.c1; clear hV; go_simp; try rfl))
    try simp only [s1, s2, s3]
    refine tk 9 17 (.pointer (some ⟨lb, 0, none⟩)) ?_
    try simp only [s1, s2, s3]
    refine tk 10 18 (.pointer (some ⟨lb, 0, none⟩)) ?_
    try simp only [s1, s2, s3]
    refine tk 11 19 (.pointer (some ⟨lb, 4, none⟩)) ?_
    try simp only [s1, s2, s3]
    refine tk 12 20 (.int .i64 L.last) ?_ (hv := by (intro V hV; have c4 := hV.c4; clear hV; go_simp; try rfl))
    try simp only [s1, s2, s3]
    refine wpAnyH_ready (rs := [8]) (by kernel_rfl) (by simp) ?_
    refine AllReadyH.cons rfl (fun K hK => ?_) ?_
    · rw [if_pos (by rfl)]
      go_simp
      go_at_call 53
      refine (begin_any L.gen hg _).mono ?_
      rintro e w9 ⟨rfl, rfl⟩
      dsimp only
      refine hK.out _ _ ((by assumption)) (fun hHeld => ?_)
      clear hK K
      try simp only [Act.put, s1, s2, s3]
      refine tk 13 21 (.int .i64 no) ?_ (hv := by (intro V hV; clear hV; go_simp; first | exact HWR.out | rw [HWR.out] | (rw [HWR.out]; rfl)))
      try simp only [s1, s2, s3]
      refine wpAnyH_ready (rs := [14]) (by kernel_rfl) (by simp) ?_
      refine AllReadyH.cons rfl (fun K hK => ?_) ?_
      · rw [if_pos (by rfl)]
        go_simp
        go_at_call 63
        refine (HCR.out _ (LSee.b (by assumption))).mono ?_
        rintro e w2 ⟨rfl, hb2⟩
        dsimp only
        refine hK.out _ _ (LSee.low (by assumption) hb2) (fun hHeld => ?_)
        clear hK K
        try simp only [Act.put, s1, s2, s3]
        refine tk 15 7 (.tuple #[.string T, .bool b]) ?_
        try simp only [s1, s2, s3]
        refine tk 16 23 (.string T) ?_
        try simp only [s1, s2, s3]
        refine tk 17 24 (.bool b) ?_
        try simp only [s1, s2, s3]
        refine tk 18 4 (.string T) ?_
        try simp only [s1, s2, s3]
        refine tk 19 5 (.bool b) ?_
        try simp only [s1, s2, s3]
        refine wpAnyH_done (by kernel_rfl) ?_ _
        have HB2 := Lib.hid (LSee.b hHeld)
        repeat clear hHeld
        clear hS0
        try dsimp only
        have HWn := Lib.hid (HW.out.low HB2.out)
        have c0 := HWn.out.l.cs.1
        have c1 := HWn.out.l.cs.2.1
        have c4 := HWn.out.l.cs.2.2.2.2.1
        have c5 := HWn.out.l.cs.2.2.2.2.2.1
        have hlt := HWn.out.l.lt
        go_wp2_with (fail)
        go_ret2
        rw [HP.out]
        exact ⟨rfl, WStep.same HW.out HB2.out⟩
      exact AllReadyH.nil
    exact AllReadyH.nil
end Go.Proofs.YtdmjbdecemajpaaDoor.D
namespace Go.Proofs.YtdmjbdecemajpaaDoor.D
set_option linter.unusedVariables false
set_option linter.unusedSimpArgs false
open Go.RowKit
structure RoomOk (s : DS) (L : LS) (k : Nat) (r : RR) : Prop where
  gen : r.L.gen = L.gen
  last : r.L.last = L.last
  recs : r.L.recs = L.recs
  text : r.L.text = L.text
  pend : r.L.pend = L.pend ∨ r.L.pend = 0
  ok : Okk r.s (k + 1)
  k : 0 ≤ r.k ∧ r.k ≤ 1001
  e : 0 ≤ r.e ∧ r.e ≤ 100
theorem may_rng (s : DS) (no : Int) (b : Bool) : 0 ≤ mayE s no b ∧ mayE s no b ≤ 100 := by
  unfold mayE
  repeat' split
  all_goals decide
theorem stepE_rng (s : DS) : 0 ≤ stepE s ∧ stepE s ≤ 100 := by
  unfold stepE
  split
  all_goals decide
theorem synE_rng (s : DS) (no : Int) : 0 ≤ synE s no ∧ synE s no ≤ 100 := by
  unfold synE
  split
  · exact may_rng _ _ _
  · exact stepE_rng _
theorem str_ne {t : ByteArray} (h : t ≠ ⟨#[]⟩) : (t.toList == ([] : List UInt8)) = false := by
  have := str_other h
  rw [show (⟨#[]⟩ : ByteArray).toList = [] by rw [toList_BL]; rfl] at this
  exact this
theorem room_ok {s : DS} {L : LS} {k : Nat} (hO : Okk s k) (hl : 0 ≤ L.last ∧ L.last ≤ 1000) : RoomOk s L k (roomP s L) := by
  have hE := synE_rng s (L.gen * 100 + L.last)
  unfold roomP
  split
  · exact ⟨rfl, rfl, rfl, rfl, .inl rfl, hO.mono (by omega), by show 0 ≤ L.last ∧ L.last ≤ 1001; omega, by show (0 : Int) ≤ 0 ∧ (0 : Int) ≤ 100; decide⟩
  split
  · exact ⟨rfl, rfl, rfl, rfl, .inl rfl, hO.mono (by omega), by show (0 : Int) ≤ 0 ∧ (0 : Int) ≤ 1001; decide, by show (0 : Int) ≤ 9 ∧ (9 : Int) ≤ 100; decide⟩
  split
  · split
    · exact ⟨rfl, rfl, rfl, rfl, .inl rfl, hO.syn _, by show (0 : Int) ≤ 0 ∧ (0 : Int) ≤ 1001; decide, hE⟩
    · exact ⟨rfl, rfl, rfl, rfl, .inr rfl, hO.syn _, by show 0 ≤ L.last + 1 ∧ L.last + 1 ≤ 1001; omega, by show (0 : Int) ≤ 0 ∧ (0 : Int) ≤ 100; decide⟩
  · exact ⟨rfl, rfl, rfl, rfl, .inl rfl, hO.mono (by omega), by show 0 ≤ L.last + 1 ∧ L.last + 1 ≤ 1001; omega, by show (0 : Int) ≤ 0 ∧ (0 : Int) ≤ 100; decide⟩
/-- the log's Append, behind its first tests -/
def wapE (s : DS) (L : LS) (t : ByteArray) : Int := if t.size = 0 ∨ 65536 < t.size then 5 else if L.over = true then 11 else if (roomP s L).e ≠ 0 then (roomP s L).e else appE (roomP s L).s (L.gen * 100 + (roomP s L).k) (frm t)
def wapS (s : DS) (L : LS) (t : ByteArray) : DS := if t.size = 0 ∨ 65536 < t.size then s else if L.over = true then s else if (roomP s L).e ≠ 0 then (roomP s L).s else appS (roomP s L).s (L.gen * 100 + (roomP s L).k) (frm t)
def addL (r : RR) (t : ByteArray) (E : Int) : LS := if E ≠ 0 then endL r.L E else { endL r.L E with last := r.k, recs := r.L.recs ++ [t], pend := r.L.pend + 1 }
def wapL (s : DS) (L : LS) (t : ByteArray) : LS := if t.size = 0 ∨ 65536 < t.size then L else if L.over = true then L else if (roomP s L).e ≠ 0 then (roomP s L).L else addL (roomP s L) t (appE (roomP s L).s (L.gen * 100 + (roomP s L).k) (frm t))
set_option maxRecDepth 100000 in
set_option maxHeartbeats 8000000 in
theorem Append_any (B db m lb : Nat) (s : DS) (L : LS) (v : Value) (k : Nat) (t : ByteArray) (w : World) (h : WInv B db m lb s L v w) (hO : Okk s k) (hk : k ≤ 900000) (hg : 0 ≤ L.gen ∧ L.gen ≤ 100000) (hl : 0 ≤ L.last ∧ L.last ≤ 1000) (hp : 0 ≤ L.pend ∧ L.pend ≤ 1000000) (hr : L.recs.length ≤ 1000000) (ht : t.size ≤ 140737488351232) :
    Calls Tryd.prog 33 #[.pointer (some ⟨lb, 0, none⟩), .string t] w fun e w' => e = .returned (.int .i64 (wapE s L t)) ∧ WStep B db m lb v w (wapS s L t) (wapL s L t) w' := by
  have hcs := h.l.cs
  have c6 := hcs.2.2.2.2.2.2
  have hlt := h.l.lt
  by_cases hbad : t.size = 0 ∨ 65536 < t.size
  · have HP : Hid (wapE s L t = 5 ∧ wapS s L t = s ∧ wapL s L t = L) := Lib.hid ⟨if_pos hbad, if_pos hbad, if_pos hbad⟩
    have HZ := Lib.hid (WStep.same h (Below.refl _ _))
    by_cases h0 : t.size = 0
    · have ht0 : t = ⟨#[]⟩ := by
        apply ByteArray.ext
        exact Array.eq_empty_of_size_eq_zero h0
      subst ht0
      clear h hO hcs c6 hbad h0
      go_enter Tryd.func33, Tryd.ntmps33
      go_wp2
      go_ret
      rw [HP.out.1, HP.out.2.1, HP.out.2.2]
      exact ⟨rfl, HZ.out⟩
    · have hne : t ≠ ⟨#[]⟩ := fun e => h0 (by rw [e]; rfl)
      have hs1 := str_other hne
      have hs2 := str_ne hne
      have hb : (65536 : Int) < t.size := by omega
      clear h hO hcs c6 hbad h0 hne
      go_enter Tryd.func33, Tryd.ntmps33
      go_wp2
      go_ret
      rw [HP.out.1, HP.out.2.1, HP.out.2.2]
      exact ⟨rfl, HZ.out⟩
  · have hne : t ≠ ⟨#[]⟩ := fun e => hbad (.inl (by rw [e]; rfl))
    have hs1 := str_other hne
    have hs2 := str_ne hne
    have hb : ¬ (65536 : Int) < t.size := by omega
    have hts : t.size ≤ 65536 := by omega
    have hP : wapE s L t = (if L.over = true then 11 else if (roomP s L).e ≠ 0 then (roomP s L).e else appE (roomP s L).s (L.gen * 100 + (roomP s L).k) (frm t)) ∧ wapS s L t = (if L.over = true then s else if (roomP s L).e ≠ 0 then (roomP s L).s else appS (roomP s L).s (L.gen * 100 + (roomP s L).k) (frm t)) ∧
      wapL s L t = (if L.over = true then L else if (roomP s L).e ≠ 0 then (roomP s L).L else addL (roomP s L) t (appE (roomP s L).s (L.gen * 100 + (roomP s L).k) (frm t))) := ⟨if_neg hbad, if_neg hbad, if_neg hbad⟩
    cases ho : L.over
    · rw [ho] at c6 hP
      rw [if_neg (show ¬ (false = true) by decide), if_neg (show ¬ (false = true) by decide), if_neg (show ¬ (false = true) by decide)] at hP
      have CR := room_any B db m lb s L v k w h hO hk hg hl
      have hR := room_ok (L := L) hO hl
      obtain ⟨r, hr0⟩ : ∃ r, roomP s L = r := ⟨_, rfl⟩
      rw [hr0] at CR hR hP
      obtain ⟨rk, re, rs, rL⟩ := r
      replace CR : Calls Tryd.prog 56 #[.pointer (some ⟨lb, 0, none⟩)] w fun e w' => e = .returned (.tuple #[.int .i64 rk, .int .i64 re]) ∧ WStep B db m lb v w rs rL w' := CR
      replace hP : wapE s L t = (if re ≠ 0 then re else appE rs (L.gen * 100 + rk) (frm t)) ∧ wapS s L t = (if re ≠ 0 then rs else appS rs (L.gen * 100 + rk) (frm t)) ∧ wapL s L t = (if re ≠ 0 then rL else addL ⟨rk, re, rs, rL⟩ t (appE rs (L.gen * 100 + rk) (frm t))) := hP
      have hgr : rL.gen = L.gen := hR.gen
      have hlr : rL.last = L.last := hR.last
      have hrr : rL.recs = L.recs := hR.recs
      have hpr : rL.pend = L.pend ∨ rL.pend = 0 := hR.pend
      have hok : Okk rs (k + 1) := hR.ok
      have hkr : 0 ≤ rk ∧ rk ≤ 1001 := hR.k
      have hpp : 0 ≤ rL.pend ∧ rL.pend ≤ 1000000 := by omega
      have hgL : 0 ≤ rL.gen ∧ rL.gen ≤ 100000 := by omega
      have hlen : rL.recs.length ≤ 1000000 := by rw [hrr]; exact hr
      rw [← hgr] at hP
      have CR := Lib.hid CR
      have HP := Lib.hid hP
      have HOk := Lib.hid hok
      have HW := Lib.hid h
      have CF := fun W hW => fOf_any t hts W hW
      have hfs := frm_size t
      obtain ⟨F, hF⟩ : ∃ F, frm t = F := ⟨_, rfl⟩
      rw [hF] at CF hfs
      have HFr := Lib.hid hF
      have CF := Lib.hid CF
      clear h hO hcs hbad hne hR hgr hlr hrr hpr hok hP hr0 hg hl hp hr ho hF
      by_cases hre : re = 0
      · obtain ⟨no, hno⟩ : ∃ no, no = rL.gen * 100 + rk := ⟨_, rfl⟩
        have hwr : IntKind.i64.wrap (rL.gen * 100 + rk) = no := by rw [IntKind.wrap_i64]; omega
        have HWR := Lib.hid hwr
        have hP := HP.out
        rw [if_neg (fun h => h hre), if_neg (fun h => h hre), if_neg (fun h => h hre), HFr.out, ← hno] at hP
        have hcy : ∀ V, DInv B db m rs V → Calls Tryd.prog 58 #[.pointer (some ⟨db, 0, none⟩), .int .i64 no, .string F] V fun e w' => e = .returned (.int .i64 (appE rs no F)) ∧ DStep B db m V (appS rs no F) w' := fun V hV => append_any B db m rs no F V hV (HOk.out.bd (by omega)) (by omega)
        obtain ⟨E, hE⟩ : ∃ E, appE rs no F = E := ⟨_, rfl⟩
        obtain ⟨s1, hs9⟩ : ∃ s1, appS rs no F = s1 := ⟨_, rfl⟩
        simp only [hE, hs9] at hcy hP
        replace HP := Lib.hid hP
        have HCY := Lib.hid hcy
        clear hP hcy hE hs9 hwr hno
        subst hre
        go_enter Tryd.func33, Tryd.ntmps33
        go_upto_region 13 with (first | (go_at_call 56; refine CR.out.mono ?_; rintro e w5 ⟨rfl, hs5⟩; obtain ⟨v1, hw5, hf5⟩ := hs5.get; have HW5 := Lib.hid hw5; have HF5 := Lib.hid hf5; clear hs5 hw5 hf5) | (go_at_call 20; refine Calls.mono (CF.out _ (Lib.hid HW5.out.t.tab)) ?_; rintro e w7 ⟨rfl, hb7⟩))
        have HWn := Lib.hid (HW5.out.low hb7)
        have HF7 := Lib.hid (HF5.out.low hb7)
        clear hb7 c6 hlt
        have c0 := HWn.out.l.cs.1
        have c1 := HWn.out.l.cs.2.1
        have c4 := HWn.out.l.cs.2.2.2.2.1
        have hlt := HWn.out.l.lt
        have HWd : Hid (WInv B db m lb rs rL v1 w7.drew) := Lib.hid (HWn.out.low (G.bdrewN (Below.refl _ _) 1))
        have CY : Hid (Calls Tryd.prog 58 #[.pointer (some ⟨db, 0, none⟩), .int .i64 no, .string F] w7.drew fun e w' => e = .returned (.int .i64 E) ∧ DStep B db m w7.drew s1 w') := Lib.hid (HCY.out _ HWd.out.t.d)
        have HF0 : Hid (WF db m lb v w v1 w7.drew) := Lib.hid (HF7.out.low (G.bdrewN (Below.refl _ _) 1))
        refine wp_region_held_drew (S := LCel db lb rL) (by kernel_rfl) ⟨c0, c1, c4⟩ (fun hS0 => ?_)
        refine tk 0 41 (.pointer (some ⟨lb, 0, none⟩)) ?_
        try simp only [s1, s2, s3]
        refine tk 1 42 (.pointer (some ⟨lb, 0, none⟩)) ?_
        try simp only [s1, s2, s3]
        refine tk 2 43 (.pointer (some ⟨lb, 0, none⟩)) ?_
        try simp only [s1, s2, s3]
        refine tk 3 44 (.pointer (some ⟨lb, 0, none⟩)) ?_
        try simp only [s1, s2, s3]
        refine tk 4 45 (.pointer (some ⟨db, 0, none⟩)) ?_ (hv := by (intro V hV; have c0 := hV.c0; clear hV; go_simp; try rfl))
        try simp only [s1, s2, s3]
        refine tk 5 46 (.pointer (some ⟨lb, 0, none⟩)) ?_
        try simp only [s1, s2, s3]
        refine tk 6 47 (.pointer (some ⟨lb, 0, none⟩)) ?_
        try simp only [s1, s2, s3]
        refine tk 7 48 (.pointer (some ⟨lb, 1, none⟩)) ?_
        try simp only [s1, s2, s3]
        refine tk 8 49 (.int .i64 rL.gen) ?_ (hv := by (intro V hV; have c1 := hV.c1; clear hV; go_simp; try rfl))
        try simp only [s1, s2, s3]
        refine tk 10 51 (.int .i64 rk) ?_
        try simp only [s1, s2, s3]
        refine tk 12 53 (.string F) ?_
        try simp only [s1, s2, s3]
        refine wpAnyH_ready (rs := [9]) (by kernel_rfl) (by simp) ?_
        refine AllReadyH.cons rfl (fun K hK => ?_) ?_
        · rw [if_pos (by rfl)]
          go_simp
          go_at_call 53
          refine (begin_any rL.gen hgL _).mono ?_
          rintro e w9 ⟨rfl, rfl⟩
          dsimp only
          refine hK.out _ _ ((by assumption)) (fun hHeld => ?_)
          clear hK K
          try simp only [Act.put, s1, s2, s3]
          refine tk 11 52 (.int .i64 no) ?_ (hv := by (intro V hV; clear hV; go_simp; first | exact HWR.out | rw [HWR.out] | (rw [HWR.out]; rfl)))
          try simp only [s1, s2, s3]
          refine wpAnyH_ready (rs := [13]) (by kernel_rfl) (by simp) ?_
          refine AllReadyH.cons rfl (fun K hK => ?_) ?_
          · rw [if_pos (by rfl)]
            go_simp
            go_at_call 58
            refine CY.out.mono ?_
            rintro e w2 ⟨rfl, hs2⟩
            have HW2 := Lib.hid (WInv.dstep (HWd.out) hs2)
            have HS2 := Lib.hid hs2
            clear hs2
            dsimp only
            refine hK.out _ _ (HW2.out.see) (fun hHeld => ?_)
            clear hK K
            try simp only [Act.put, s1, s2, s3]
            refine wpAnyH_ready (rs := [14]) (by kernel_rfl) (by simp) ?_
            refine AllReadyH.cons rfl (fun K hK => ?_) ?_
            · rw [if_pos (by rfl)]
              go_simp
              go_at_call 57
              refine (end_any B db m lb s1 rL v1 E _ HW2.out).mono ?_
              rintro e w3 ⟨rfl, hs3⟩
              obtain ⟨v3, hw3, hf3⟩ := hs3.get
              have HW3 := Lib.hid hw3
              have HF3 := Lib.hid hf3
              clear hs3 hw3 hf3
              dsimp only
              refine hK.out _ _ (HW3.out.see) (fun hHeld => ?_)
              clear hK K
              try simp only [Act.put, s1, s2, s3]
              refine tk 15 8 (.int .i64 E) ?_
              try simp only [s1, s2, s3]
              refine wpAnyH_done (by kernel_rfl) ?_ _
              repeat clear hHeld
              clear hS0
              try dsimp only
              have HF4 := Lib.hid (((HF0.out).disk HS2.out).trans HF3.out)
              clear c0 c1 c4 hlt
              have c4 := HW3.out.l.cs.2.2.2.2.1
              have f4 := HW3.out.l.free 4
              have hlt := HW3.out.l.lt
              by_cases hE0 : E = 0
              · subst hE0
                have hz4 := HF4.out.cat (HW3.out.seti (L' := { endL rL 0 with last := rk }) 4 (.int .i64 rk) rfl rfl)
                go_upto_region 17 with (fail)
                generalize w3.setCell ⟨lb, 4, none⟩ (.int .i64 rk) = w4 at *
                obtain ⟨v4, hw4, hf4⟩ := hz4.get
                have HW4 := Lib.hid hw4
                have HF5' := Lib.hid hf4
                clear c4 f4 hlt hw4 hf4 hz4
                have c3 := HW4.out.l.cs.2.2.2.1
                have hlt := HW4.out.l.lt
                have hba : Below w4.heap.size w4 (w4.alloc (.cells #[.string t] 9)) := bel_allocT _ _
                have HWa := Lib.hid (HW4.out.low hba)
                have HFa := Lib.hid (HF5'.out.low hba)
                have HX := Lib.hid (World.ownsRow_lit (base := 0) (e := 9) (size := 1) w4 #[.string t] 1 (Nat.zero_le _) (by unfold maxLen; omega) rfl)
                have c3a := HWa.out.l.cs.2.2.2.1
                have hlta := HWa.out.l.lt
                have HB : Hid (B ≤ (w4.alloc (.cells #[.string t] 9)).heap.size) := Lib.hid (Nat.le_trans HWa.out.l.hB (Nat.le_of_lt hlta))
                clear hba
                go_upto_region 18 with (at_builtin; refine app_own rfl (.tmp 67) (.tmp 69) 41 9 rfl B 0 1 16 _ Tryd.underlying41 info9 rfl (by decide) v4 rL.recs.length (strs rL.recs) rfl HWa.out.l.row (.slice (some ⟨w4.heap.size, 0, none⟩) 1 1) 1 [.string t] rfl HX.out (one_str t) (by unfold maxLen; omega) (by omega) HB.out ?_; intro v5 w5 hown5 hg5 hat5; obtain ⟨A5, q5, rfl⟩ := owns_shape hown5; have hst5 := HWa.out.setrow _ (rL.recs ++ [t]) (rL.recs.length + 1) (by simp) hg5 (by rw [strs_append]; exact hown5) hat5; have hgr := HWa.out.grown hg5; have c3 := (hgr.1 3).trans c3a; have f3 := hgr.2.1 3; have hlt := hgr.2.2; have HSt5 := Lib.hid hst5; clear hown5 hg5 hat5 hst5 hgr c3a hlta)
                have hst5 := HFa.out.cat HSt5.out
                generalize w5.setCell ⟨lb, 3, none⟩ (.slice A5 (rL.recs.length + 1) q5) = w6 at *
                obtain ⟨v6, hw6, hf6⟩ := hst5.get
                have HW6 := Lib.hid hw6
                have HF6 := Lib.hid hf6
                clear c3 f3 hlt hw6 hf6 hst5
                have c5 := HW6.out.l.cs.2.2.2.2.2.1
                replace c5 : w6.cell? ⟨lb, 5, none⟩ = some (.int .i64 rL.pend) := c5
                have f5 := HW6.out.l.free 5
                have hlt := HW6.out.l.lt
                have HZ := Lib.hid (HF6.out.cat (HW6.out.seti (L' := { endL rL 0 with last := rk, recs := rL.recs ++ [t], pend := rL.pend + 1 }) 5 (.int .i64 (rL.pend + 1)) rfl rfl))
                go_wp2_with (fail)
                go_ret
                rw [HP.out.1, HP.out.2.1, HP.out.2.2, addL, if_neg (show ¬ ((0 : Int) ≠ 0) by decide)]
                exact ⟨rfl, HZ.out⟩
              · have hE1 : (E != 0) = true := by simpa using hE0
                have HE0 := Lib.hid hE0
                clear hE0
                go_wp2_with (fail)
                go_ret
                rw [HP.out.1, HP.out.2.1, HP.out.2.2, addL, if_pos HE0.out]
                exact ⟨rfl, HF4.out.mk' HW3.out⟩
            exact AllReadyH.nil
          exact AllReadyH.nil
        exact AllReadyH.nil
      · have hP := HP.out
        rw [if_pos hre, if_pos hre, if_pos hre] at hP
        replace HP := Lib.hid hP
        have hre1 : (re != 0) = true := by simpa using hre
        clear hP hre
        go_enter Tryd.func33, Tryd.ntmps33
        go_wp2_with (go_at_call 56; refine CR.out.mono ?_; rintro e w5 ⟨rfl, hs5⟩; have HS5 := Lib.hid hs5; clear hs5)
        go_ret
        rw [HP.out.1, HP.out.2.1, HP.out.2.2]
        exact ⟨rfl, HS5.out⟩
    · rw [ho] at c6 hP
      rw [if_pos rfl, if_pos rfl, if_pos rfl] at hP
      have HP := Lib.hid hP
      have HZ := Lib.hid (WStep.same h (Below.refl _ _))
      clear h hO hcs hbad hne hP ho
      go_enter Tryd.func33, Tryd.ntmps33
      go_wp2
      go_ret
      rw [HP.out.1, HP.out.2.1, HP.out.2.2]
      exact ⟨rfl, HZ.out⟩
set_option maxHeartbeats 1000000 in
theorem Records_any (B db m lb : Nat) (s : DS) (L : LS) (v : Value) (w : World) (h : WInv B db m lb s L v w) (hr : L.recs.length ≤ 1000000) :
    Calls Tryd.prog 37 #[.pointer (some ⟨lb, 0, none⟩)] w fun e w' => ∃ v', e = .returned v' ∧ w'.ownsRow w.heap.size 9 1 v' L.recs.length (strs L.recs) ∧ Below w.heap.size w w' := by
  have c3 := h.l.cs.2.2.2.1
  have hlt := h.l.lt
  obtain ⟨hl, ⟨hv, hn⟩ | ⟨g, cap, cur, hv, _, _, hnc, _⟩⟩ := h.l.row
  · have hrec : L.recs = [] := List.eq_nil_of_length_eq_zero hn
    have HZ : Hid (L.recs.length = 0 ∧ strs L.recs = []) := Lib.hid (by rw [hrec]; exact ⟨rfl, rfl⟩)
    rw [hv] at c3
    clear h hv hn hl hrec
    go_enter Tryd.func37, Tryd.ntmps37
    go_wp2_with (go_at_call 61; refine (Tryd.slices_Clone_string_nil 0 0 w).mono ?_; rintro e w1 ⟨rfl, rfl⟩)
    go_ret
    rw [HZ.out.1, HZ.out.2]
    exact ⟨_, rfl, G.owns_nil _ _ _ _, Below.refl _ _⟩
  · have hh := G.HasRow.of_owns h.l.row
    rw [hv] at hh c3
    have CC := Tryd.slices_Clone_string g 0 L.recs.length cap L.recs w (Nat.le_refl _) (by omega) (fun j hj => by
      obtain ⟨_, A, c, hvv, _, _, hc⟩ := hh
      cases hvv
      obtain ⟨ad, ha, hcell⟩ := hc j (.string L.recs[j]) (strs_getElem _ _ hj)
      cases ha
      rw [G.add_plain] at hcell
      rw [hcell]
      simp [hj])
    rw [List.take_length] at CC
    have CC := Lib.hid CC
    clear h hh hv hl hnc
    go_enter Tryd.func37, Tryd.ntmps37
    go_wp2_with (go_at_call 61; refine CC.out.mono ?_; rintro e w1 ⟨v', rfl, ho, _, hb⟩; have HO := Lib.hid ho; clear ho)
    go_ret
    exact ⟨_, rfl, HO.out, hb⟩
end Go.Proofs.YtdmjbdecemajpaaDoor.D
namespace Go.Proofs.YtdmjbdecemajpaaDoor.D
set_option linter.unusedVariables false
set_option linter.unusedSimpArgs false
open Go.RowKit
theorem Okk.lay {s : DS} {k : Nat} (h : Okk s k) (g : Int) (t : ByteArray) : Okk (layS' s g t) (k + 2) := by
  unfold layS'
  split
  · exact (h.app _ _).mono (by omega)
  · exact (h.app _ _).syn _
theorem Okk.remOut (g l : Int) : ∀ (r : List Int) (s : DS) (k : Nat), Okk s k → Okk (remOut g l r s).2 (k + r.length)
  | [], s, k, h => h
  | no :: r, s, k, h => by
    rw [D.remOut]
    have e : (no :: r).length = r.length + 1 := rfl
    split
    · exact (Okk.remOut g l r s k h).mono (by omega)
    split
    · exact (h.rem no).mono (by omega)
    · exact (Okk.remOut g l r _ (k + 1) (h.rem no)).mono (by omega)
theorem Okk.tid {s : DS} {k : Nat} (h : Okk s k) (no good : Int) : Okk (tidS s no good) (k + 2) := by
  unfold tidS
  split
  · split
    · exact (h.tri _ _).mono (by omega)
    · exact (h.tri _ _).syn _
  · exact (h.syn _).mono (by omega)
theorem Okk.openP {s : DS} {k : Nat} (h : Okk s k) : Okk (openP s).s (k + 112) := by
  unfold D.openP
  split
  · exact h.mono (by omega)
  · rename_i p _
    have hr := (Okk.remOut p.1 (segs s p).last s.keys s k h).mono (j := k + 110) (by have := keys_len h; omega)
    unfold openT
    split
    · exact hr.mono (by omega)
    split
    · exact hr.mono (by omega)
    split
    · exact hr.tid _ _
    · exact hr.tid _ _
theorem Okk.wsy {s : DS} {k : Nat} (h : Okk s k) (L : LS) : Okk (wsyS s L) (k + 1) := by
  unfold wsyS
  split
  · exact h.mono (by omega)
  split
  · exact h.syn _
  · exact h.mono (by omega)
theorem Okk.wap {s : DS} {k : Nat} (h : Okk s k) (L : LS) (t : ByteArray) (hl : 0 ≤ L.last ∧ L.last ≤ 1000) : Okk (wapS s L t) (k + 2) := by
  have hr := (room_ok (L := L) h hl).ok
  unfold wapS
  split
  · exact h.mono (by omega)
  split
  · exact h.mono (by omega)
  split
  · exact hr.mono (by omega)
  · exact hr.app _ _
theorem mx : max (0 : Int) (-1) = 0 := by decide
theorem z0 : (⟨#[]⟩ : ByteArray).size = 0 := rfl
/-- the example's states -/
def X1 (z : ByteArray) : DS := ⟨[(100, ⟨z, 8⟩)], false, 0, 2⟩
def X2 (z a : ByteArray) (n : Nat) (k : Int) : DS := ⟨[(100, ⟨z, 8⟩), (101, ⟨a, n⟩)], false, 0, k⟩
theorem x_lay (z : ByteArray) (hz : z.size = 8) (he : frm ⟨#[]⟩ = z) : layE DS0 1 ⟨#[]⟩ = 0 ∧ layS' DS0 1 ⟨#[]⟩ = X1 z := by
  unfold layE layS'
  rw [he]
  have e1 : appE DS0 (1 * 100) z = 0 := by simp [appE, mayE, DS0, DS.fl, M.get, fl0, stepE, mx, z0, empty_append, hz]
  have e2 : appS DS0 (1 * 100) z = ⟨[(100, ⟨z, 0⟩)], false, 0, 1⟩ := by simp [appS, mayE, DS0, DS.fl, DS.put, M.get, M.put, fl0, stepS, mx, z0, empty_append, hz]
  rw [e1, e2]
  simp [synE, synS, mayE, M.get, M.put, DS.put, DS.fl, stepE, mx, z0, empty_append, stepS, mx, z0, empty_append, X1, hz]
theorem keys1 (z : ByteArray) : (X1 z).keys = [100] := by simp [DS.keys, X1]
theorem keys2 (z a : ByteArray) (n : Nat) (k : Int) : (X2 z a n k).keys = [100, 101] := by
  show ([100, 101] : List Int).mergeSort leI = _
  exact List.mergeSort_of_pairwise (by simp [leI])
theorem x_open1 (z : ByteArray) (hz : z.size = 8) (hw : whole z = true) (hb : fBody z = ⟨#[]⟩) : openP (X1 z) = ⟨0, X1 z, some ⟨1, ⟨#[]⟩, [], 0, 0, false⟩⟩ := by
  have hn : newP (X1 z) (X1 z).keys.reverse = some (1, ⟨#[]⟩) := by
    rw [keys1]
    simp [newP, DS.fl, M.get, X1, hw, hb]
  have hs : segs (X1 z) (1, ⟨#[]⟩) = ⟨[], 0, 0⟩ := by
    unfold segs
    rw [segP]
    simp [X1, M.get]
  have hr : remOut 1 0 (X1 z).keys (X1 z) = (0, X1 z) := by
    rw [keys1]
    simp [remOut]
  unfold openP
  rw [hn]
  simp [hs, hr, openT]
theorem x_app1 (z a t : ByteArray) (ht : t.size = 1) (ha : a.size = 9) (he : frm t = a) : wapE (X1 z) ⟨1, ⟨#[]⟩, [], 0, 0, false⟩ t = 0 ∧ wapS (X1 z) ⟨1, ⟨#[]⟩, [], 0, 0, false⟩ t = X2 z a 0 3 ∧ wapL (X1 z) ⟨1, ⟨#[]⟩, [], 0, 0, false⟩ t = ⟨1, ⟨#[]⟩, [t], 1, 1, false⟩ := by
  have hr : roomP (X1 z) ⟨1, ⟨#[]⟩, [], 0, 0, false⟩ = ⟨1, 0, X1 z, ⟨1, ⟨#[]⟩, [], 0, 0, false⟩⟩ := by simp [roomP]
  have e1 : appE (X1 z) 101 a = 0 := by simp [appE, mayE, X1, DS.fl, M.get, fl0, stepE, mx, z0, empty_append, ha]
  have e2 : appS (X1 z) 101 a = X2 z a 0 3 := by simp [appS, mayE, X1, X2, DS.fl, DS.put, M.get, M.put, fl0, stepS, mx, z0, empty_append, ha]
  unfold wapE wapS wapL
  rw [hr, he]
  simp [ht, e1, e2, addL, endL]
theorem x_syn (z a t : ByteArray) (ha : a.size = 9) : wsyE (X2 z a 0 3) ⟨1, ⟨#[]⟩, [t], 1, 1, false⟩ = 0 ∧ wsyS (X2 z a 0 3) ⟨1, ⟨#[]⟩, [t], 1, 1, false⟩ = X2 z a 9 4 ∧ wsyL (X2 z a 0 3) ⟨1, ⟨#[]⟩, [t], 1, 1, false⟩ = ⟨1, ⟨#[]⟩, [t], 1, 0, false⟩ := by
  have e1 : synE (X2 z a 0 3) 101 = 0 := by simp [synE, mayE, X2, M.get, stepE, mx, z0, empty_append]
  have e2 : synS (X2 z a 0 3) 101 = X2 z a 9 4 := by simp [synS, mayE, X2, DS.fl, DS.put, M.get, M.put, stepE, mx, z0, empty_append, stepS, mx, z0, empty_append, ha]
  unfold wsyE wsyS wsyL
  simp [e1, e2, endL]
theorem x_app2 (z a b t u : ByteArray) (hu : u.size = 1) (ha : a.size = 9) (hb : b.size = 9) (he : frm u = b) : wapE (X2 z a 9 4) ⟨1, ⟨#[]⟩, [t], 1, 0, false⟩ u = 0 ∧ wapS (X2 z a 9 4) ⟨1, ⟨#[]⟩, [t], 1, 0, false⟩ u = X2 z (a ++ b) 9 5 ∧ wapL (X2 z a 9 4) ⟨1, ⟨#[]⟩, [t], 1, 0, false⟩ u = ⟨1, ⟨#[]⟩, [t, u], 1, 1, false⟩ := by
  have hr : roomP (X2 z a 9 4) ⟨1, ⟨#[]⟩, [t], 1, 0, false⟩ = ⟨1, 0, X2 z a 9 4, ⟨1, ⟨#[]⟩, [t], 1, 0, false⟩⟩ := by simp [roomP, readT, X2, DS.fl, M.get, ha]
  have e1 : appE (X2 z a 9 4) 101 b = 0 := by simp [appE, mayE, X2, DS.fl, M.get, stepE, mx, z0, empty_append, ha, hb]
  have e2 : appS (X2 z a 9 4) 101 b = X2 z (a ++ b) 9 5 := by simp [appS, mayE, X2, DS.fl, DS.put, M.get, M.put, stepS, mx, z0, empty_append, ha, hb]
  unfold wapE wapS wapL
  rw [hr, he]
  simp [hu, e1, e2, addL, endL]
theorem x_start (z a b : ByteArray) (hz : z.size = 8) (ha : a.size = 9) (hb : b.size = 9) : staE (cutS (X2 z (a ++ b) 9 5)) = 0 ∧ staS (cutS (X2 z (a ++ b) 9 5)) [] = X2 z a 9 5 := by
  have hk : (cutS (X2 z (a ++ b) 9 5)).keys = [100, 101] := keys2 z (a ++ b) 9 5
  have he : (a ++ b).extract 0 9 = a := by
    rw [← ha, ext_app a b a.size (Nat.le_refl _), ext_self]
  have hn : ¬ (a ++ b).size = 9 := by rw [ByteArray.size_append]; omega
  refine ⟨by simp [staE, cutS, X2], ?_⟩
  unfold staS
  rw [hk]
  have hab : (a ++ b).size = 18 := by rw [ByteArray.size_append]; omega
  simp [cutS, X2, staF, M.get, M.put, staySize, hz, hab, he]
theorem x_open2 (z a t : ByteArray) (hz : z.size = 8) (ha : a.size = 9) (hw : whole z = true) (hb : fBody z = ⟨#[]⟩) (hs : scan a = ([t], 9)) : openP (X2 z a 9 5) = ⟨0, X2 z a 9 6, some ⟨1, ⟨#[]⟩, [t], 1, 0, false⟩⟩ := by
  have hn : newP (X2 z a 9 5) (X2 z a 9 5).keys.reverse = some (1, ⟨#[]⟩) := by
    rw [keys2]
    simp [newP, DS.fl, M.get, X2, hw, hb]
  have hsg : segs (X2 z a 9 5) (1, ⟨#[]⟩) = ⟨[t], 1, 9⟩ := by
    unfold segs
    rw [segP, segP]
    simp [X2, M.get, DS.fl, hs, ha]
  have hr : remOut 1 1 (X2 z a 9 5).keys (X2 z a 9 5) = (0, X2 z a 9 5) := by
    rw [keys2]
    simp [remOut]
  have e1 : tidE (X2 z a 9 5) 101 9 = 0 := by simp [tidE, synE, mayE, X2, DS.fl, M.get, stepE, mx, z0, empty_append, ha]
  have e2 : tidS (X2 z a 9 5) 101 9 = X2 z a 9 6 := by simp [tidS, synS, mayE, X2, DS.fl, DS.put, M.get, M.put, stepE, mx, z0, empty_append, stepS, mx, z0, empty_append, ha]
  unfold openP
  rw [hn]
  simp [hsg, hr, openT, e1, e2]
end Go.Proofs.YtdmjbdecemajpaaDoor.D
namespace Go.Proofs.YtdmjbdecemajpaaDoor.D
set_option linter.unusedVariables false
set_option linter.unusedSimpArgs false
open Go.RowKit
/-- a generation's files are removed, the last one first -/
def remDn (g : Int) : Nat → DS → Int × DS
  | 0, s => (0, s)
  | c + 1, s => if remE s (g * 100 + c) ≠ 0 then (remE s (g * 100 + c), remS s (g * 100 + c)) else remDn g c (remS s (g * 100 + c))
def wreE (s : DS) (L : LS) (t : ByteArray) : Int := if 65536 < t.size then 5 else if L.over = true then 11 else if L.gen = 9999 then 9 else if layE s (L.gen + 1) t ≠ 0 then layE s (L.gen + 1) t else (remDn L.gen (L.last.toNat + 1) (layS' s (L.gen + 1) t)).1
def wreS (s : DS) (L : LS) (t : ByteArray) : DS := if 65536 < t.size then s else if L.over = true then s else if L.gen = 9999 then s else if layE s (L.gen + 1) t ≠ 0 then layS' s (L.gen + 1) t else (remDn L.gen (L.last.toNat + 1) (layS' s (L.gen + 1) t)).2
def wreL (s : DS) (L : LS) (t : ByteArray) : LS := if 65536 < t.size then L else if L.over = true then L else if L.gen = 9999 then L else if layE s (L.gen + 1) t ≠ 0 then endL L (layE s (L.gen + 1) t) else if (remDn L.gen (L.last.toNat + 1) (layS' s (L.gen + 1) t)).1 ≠ 0 then endL L (remDn L.gen (L.last.toNat + 1) (layS' s (L.gen + 1) t)).1 else ⟨L.gen + 1, t, [], 0, 0, false⟩
theorem endL_zero {L : LS} (h : L.over = false) : endL L 0 = L := by
  obtain ⟨g, t, r, l, p, o⟩ := L
  replace h : o = false := h
  subst h
  rfl
/-- the whole log is another one -/
theorem WInv.setall {B db m lb : Nat} {s : DS} {L : LS} {v : Value} {w : World} (h : WInv B db m lb s L v w) (L' : LS) (hr : L'.recs = []) : WStep B db m lb v w s L' (w.setRow lb (lcells db L' (.slice none 0 0))) := by
  have kp : ∀ j, j ≠ lb → (w.setRow lb (lcells db L' (.slice none 0 0))).heap[j]? = w.heap[j]? := fun j hj => setRow_other w lb j _ hj
  have hf : Fr (WFoot db m lb v) w (w.setRow lb (lcells db L' (.slice none 0 0))) := ⟨rfl, rfl, rfl, by rw [size_setRow]; exact Nat.le_refl _, fun j hj hn => kp j (fun e => hn (.inr (.inl e)))⟩
  refine ⟨.slice none 0 0, ⟨⟨h.t.d.keep fun j hj => kp j (fun e => h.apart (.inl e) hj), tab_fr h.t.tab hf (fun h0 => by have := h.foot_B h0; have := h.t.pos; omega), h.t.pos⟩, ?_, h.l.hB, ?_⟩, fun j hj => ?_, hf⟩
  · exact setRow_heap w lb _ _ 85 (0, 0) h.l.cells
  · rw [hr]; exact G.owns_nil _ _ _ _
  · rcases hj with hj | rfl | hj
    · exact .inl (.inl hj)
    · exact .inl (.inr (.inl rfl))
    · simp [Value.ownBlock] at hj
theorem size85 : (Tryd.prog.info? 85).map (·.size) = some 7 := by kernel_rfl
theorem lcells_one (db : Nat) (L : LS) : (lcells db L (.slice none 0 0)).all (·.oneCell') = true := by
  simp [lcells, Value.oneCell']
/-- what stands at the head of a round of removing -/
structure RdI (B db m lb : Nat) (g : Int) (L : LS) (v : Value) (w : World) (R : Int × DS) (k c : Nat) (n : Nat) (wr : World) : Prop where
  st : ∃ si, WStep B db m lb v w si L wr ∧ Okk si (k + (n - c)) ∧ R = remDn g c si
set_option maxRecDepth 100000 in
set_option maxHeartbeats 8000000 in
theorem Renew_any (B db m lb : Nat) (s : DS) (L : LS) (v : Value) (k : Nat) (t : ByteArray) (w : World) (h : WInv B db m lb s L v w) (hO : Okk s k) (hk : k ≤ 800000) (hg : 0 ≤ L.gen ∧ L.gen ≤ 9999) (hl : 0 ≤ L.last ∧ L.last ≤ 1000) (ht : t.size ≤ 140737488351232) :
    Calls Tryd.prog 35 #[.pointer (some ⟨lb, 0, none⟩), .string t] w fun e w' => e = .returned (.int .i64 (wreE s L t)) ∧ WStep B db m lb v w (wreS s L t) (wreL s L t) w' := by
  have hcs := h.l.cs
  have c0 := hcs.1
  have c1 := hcs.2.1
  have c4 := hcs.2.2.2.2.1
  have c6 := hcs.2.2.2.2.2.2
  have hlt := h.l.lt
  have HZ := Lib.hid (WStep.same h (Below.refl _ _))
  by_cases hb : 65536 < t.size
  · have HP : Hid (wreE s L t = 5 ∧ wreS s L t = s ∧ wreL s L t = L) := Lib.hid ⟨if_pos hb, if_pos hb, if_pos hb⟩
    have hb2 : (65536 : Int) < t.size := by omega
    clear h hO hcs hb
    go_enter Tryd.func35, Tryd.ntmps35
    go_wp2
    go_ret
    rw [HP.out.1, HP.out.2.1, HP.out.2.2]
    exact ⟨rfl, HZ.out⟩
  have hb2 : ¬ (65536 : Int) < t.size := by omega
  have hP1 : wreE s L t = (if L.over = true then 11 else if L.gen = 9999 then 9 else if layE s (L.gen + 1) t ≠ 0 then layE s (L.gen + 1) t else (remDn L.gen (L.last.toNat + 1) (layS' s (L.gen + 1) t)).1) := if_neg hb
  have hP2 : wreS s L t = (if L.over = true then s else if L.gen = 9999 then s else if layE s (L.gen + 1) t ≠ 0 then layS' s (L.gen + 1) t else (remDn L.gen (L.last.toNat + 1) (layS' s (L.gen + 1) t)).2) := if_neg hb
  have hP3 : wreL s L t = (if L.over = true then L else if L.gen = 9999 then L else if layE s (L.gen + 1) t ≠ 0 then endL L (layE s (L.gen + 1) t) else if (remDn L.gen (L.last.toNat + 1) (layS' s (L.gen + 1) t)).1 ≠ 0 then endL L (remDn L.gen (L.last.toNat + 1) (layS' s (L.gen + 1) t)).1 else ⟨L.gen + 1, t, [], 0, 0, false⟩) := if_neg hb
  cases ho : L.over
  case true =>
    rw [if_pos ho] at hP1 hP2 hP3
    rw [ho] at c6
    have HP := Lib.hid (And.intro hP1 (And.intro hP2 hP3))
    clear h hO hcs hb hP1 hP2 hP3 ho
    go_enter Tryd.func35, Tryd.ntmps35
    go_wp2
    go_ret
    rw [HP.out.1, HP.out.2.1, HP.out.2.2]
    exact ⟨rfl, HZ.out⟩
  have ho' : ¬ L.over = true := by rw [ho]; decide
  rw [if_neg ho'] at hP1 hP2 hP3
  rw [ho] at c6
  by_cases h99 : L.gen = 9999
  · rw [if_pos h99] at hP1 hP2 hP3
    have HP := Lib.hid (And.intro hP1 (And.intro hP2 hP3))
    rw [h99] at c1
    clear h hO hcs hb hP1 hP2 hP3 ho ho' h99 hg
    go_enter Tryd.func35, Tryd.ntmps35
    go_wp2
    go_ret
    rw [HP.out.1, HP.out.2.1, HP.out.2.2]
    exact ⟨rfl, HZ.out⟩
  rw [if_neg h99] at hP1 hP2 hP3
  have h991 : (L.gen == 9999) = false := by simpa using h99
  have hgg : 0 ≤ L.gen ∧ L.gen ≤ 100000 := by omega
  have HWR : Hid (IntKind.i64.wrap (L.gen + 1) = L.gen + 1) := Lib.hid (by rw [IntKind.wrap_i64]; omega)
  have HWd : Hid (WInv B db m lb s L v w.drew) := Lib.hid (h.low (G.bdrewN (Below.refl _ _) 1))
  have hcy := lay_any B db m s k (L.gen + 1) t w.drew HWd.out.t hO (by omega) (by omega) (by omega)
  have hO1 := hO.lay (L.gen + 1) t
  obtain ⟨E, hE⟩ : ∃ E, layE s (L.gen + 1) t = E := ⟨_, rfl⟩
  obtain ⟨s1, hs1⟩ : ∃ s1, layS' s (L.gen + 1) t = s1 := ⟨_, rfl⟩
  rw [hE, hs1] at hcy
  rw [hE] at hP1 hP2 hP3
  rw [hs1] at hP1 hP2 hP3 hO1
  have CY := Lib.hid hcy
  have HO1 := Lib.hid hO1
  have HP := Lib.hid (And.intro hP1 (And.intro hP2 hP3))
  have HF0 : Hid (WF db m lb v w v w.drew) := Lib.hid ((WF.refl db m lb v w).low (G.bdrewN (Below.refl _ _) 1))
  have HOv := Lib.hid ho
  clear h hO hcs hb hP1 hP2 hP3 ho ho' h99 hcy hO1 hE hs1 HZ
  go_enter Tryd.func35, Tryd.ntmps35
  go_upto_region 9 with (fail)
  refine wp_region_held_drew (S := LCel db lb L) (by kernel_rfl) ⟨c0, c1, c4⟩ (fun hS0 => ?_)
  refine tk 0 26 (.pointer (some ⟨lb, 0, none⟩)) ?_
  try simp only [s1, s2, s3]
  refine tk 1 27 (.pointer (some ⟨lb, 0, none⟩)) ?_
  try simp only [s1, s2, s3]
  refine tk 2 28 (.pointer (some ⟨lb, 0, none⟩)) ?_
  try simp only [s1, s2, s3]
  refine tk 3 29 (.pointer (some ⟨lb, 0, none⟩)) ?_
  try simp only [s1, s2, s3]
  refine tk 4 30 (.pointer (some ⟨db, 0, none⟩)) ?_ (hv := by (intro V hV; have c0 := hV.c0; clear hV; go_simp; try rfl))
  try simp only [s1, s2, s3]
  refine tk 5 31 (.pointer (some ⟨lb, 0, none⟩)) ?_
  try simp only [s1, s2, s3]
  refine tk 6 32 (.pointer (some ⟨lb, 0, none⟩)) ?_
  try simp only [s1, s2, s3]
  refine tk 7 33 (.pointer (some ⟨lb, 1, none⟩)) ?_
  try simp only [s1, s2, s3]
  refine tk 8 34 (.int .i64 L.gen) ?_ (hv := by (intro V hV; have c1 := hV.c1; clear hV; go_simp; try rfl))
  try simp only [s1, s2, s3]
  refine tk 9 35 (.int .i64 (L.gen + 1)) ?_ (hv := by (intro V hV; clear hV; go_simp; first | exact HWR.out | rw [HWR.out] | (rw [HWR.out]; rfl)))
  try simp only [s1, s2, s3]
  refine tk 10 36 (.string t) ?_
  try simp only [s1, s2, s3]
  refine wpAnyH_ready (rs := [11]) (by kernel_rfl) (by simp) ?_
  refine AllReadyH.cons rfl (fun K hK => ?_) ?_
  · rw [if_pos (by rfl)]
    go_simp
    go_at_call 60
    refine CY.out.mono ?_
    rintro e w2 ⟨rfl, hs2⟩
    have HW2 := Lib.hid (WInv.dstep (HWd.out) hs2)
    have HS2 := Lib.hid hs2
    clear hs2
    dsimp only
    refine hK.out _ _ (HW2.out.see) (fun hHeld => ?_)
    clear hK K
    try simp only [Act.put, s1, s2, s3]
    refine wpAnyH_ready (rs := [12]) (by kernel_rfl) (by simp) ?_
    refine AllReadyH.cons rfl (fun K hK => ?_) ?_
    · rw [if_pos (by rfl)]
      go_simp
      go_at_call 57
      refine (end_any B db m lb s1 L v E _ HW2.out).mono ?_
      rintro e w3 ⟨rfl, hs3⟩
      obtain ⟨v3, hw3, hf3⟩ := hs3.get
      have HW3 := Lib.hid hw3
      have HF3 := Lib.hid hf3
      clear hs3 hw3 hf3
      dsimp only
      refine hK.out _ _ (HW3.out.see) (fun hHeld => ?_)
      clear hK K
      try simp only [Act.put, s1, s2, s3]
      refine tk 13 5 (.int .i64 E) ?_
      try simp only [s1, s2, s3]
      refine wpAnyH_done (by kernel_rfl) ?_ _
      repeat clear hHeld
      clear hS0
      try dsimp only
      have HF4 := Lib.hid (((HF0.out).disk HS2.out).trans HF3.out)
      clear c0 c1 c4 c6 hlt h991
      by_cases hE0 : E = 0
      · have hP := HP.out
        rw [if_neg (fun h => h hE0), if_neg (fun h => h hE0), if_neg (fun h => h hE0)] at hP
        have hw3 : WInv B db m lb s1 L v3 w3 := by have := HW3.out; rw [hE0, show ({ L with over := L.over || decide ((0 : Int) ≠ 0) } : LS) = L from endL_zero HOv.out] at this; exact this
        have HW3' := Lib.hid hw3
        obtain ⟨R, hR⟩ : ∃ R, remDn L.gen (L.last.toNat + 1) s1 = R := ⟨_, rfl⟩
        rw [hR] at hP
        have HP1 := Lib.hid hP
        have HR := Lib.hid hR
        clear hP hR hw3
        subst hE0
        have c1 := HW3'.out.l.cs.2.1
        have c4 := HW3'.out.l.cs.2.2.2.2.1
        have hlt := HW3'.out.l.lt
        obtain ⟨n, hn⟩ : ∃ n : Nat, L.last = n := ⟨L.last.toNat, by omega⟩
        obtain ⟨no, hno⟩ : ∃ no, no = L.gen * 100 + (n : Int) := ⟨_, rfl⟩
        go_upto_region 12 with (fail)
        go_quiet ((go_at_call 53; exact Calls.quiet_of_same (begin_any L.gen hgg _)))
        rw [← hno]
        generalize hw5 : w3.drewN nq = w5
        have hb5 : Below w3.heap.size w3 w5 := by rw [← hw5]; exact G.bdrewN (Below.refl _ _) nq
        have HR0 : Hid (RdI B db m lb L.gen L v w R (k + 2) (n + 1) (n + 1) w5) := Lib.hid ⟨s1, (HF4.out.low hb5).mk' (HW3'.out.low hb5), HO1.out.mono (by omega), by rw [← HR.out, hn]; rfl⟩
        have hno2 : no = L.gen * 100 + ((n + 1 : Nat) : Int) - 1 := by omega
        have HNo := Lib.hid hno2
        have hn9 : n ≤ 1000 := by omega
        clear hb5 hw5 c1 c4 hlt hno hno2 hn
        go_wp2_with (fail)
        go_loopw [6] (fun i wr => ∃ c : Nat, c ≤ n + 1 ∧ i = .int .i64 (L.gen * 100 + c - 1) ∧ Hid (RdI B db m lb L.gen L v w R (k + 2) c (n + 1) wr)) (fun i _ => (intOf i + 1 - L.gen * 100).toNat)
        case atStart => exact ⟨n + 1, by omega, by rw [HNo.out], HR0⟩
        case round =>
          obtain ⟨c, hc, rfl, HK⟩ := hrel
          obtain ⟨si, hst, hOi, hRi⟩ := HK.out.st
          obtain ⟨vi, hwi, hfi⟩ := hst.get
          have HWi := Lib.hid hwi
          have HFi := Lib.hid hfi
          have HOi := Lib.hid hOi
          have HRi := Lib.hid hRi
          have c0 := hwi.l.cs.1
          have c1 := hwi.l.cs.2.1
          have hlt := hwi.l.lt
          clear hst hwi hfi hOi hRi HK
          by_cases hc0 : c = 0
          · have hRi := HRi.out
            rw [hc0, remDn] at hRi
            have hP := HP1.out
            rw [hRi, if_neg (show ¬ ((0 : Int) ≠ 0) by decide)] at hP
            have HP2 := Lib.hid hP
            have hd : decide (L.gen * 100 ≤ L.gen * 100 + (c : Int) - 1) = false := decide_eq_false (by omega)
            have hd2 : ¬ (L.gen * 100 ≤ L.gen * 100 + (c : Int) - 1) := by omega
            clear hRi hP
            go_upto_region 18 with (go_at_call 53; refine (begin_any L.gen hgg _).mono ?_; rintro e wx ⟨rfl, hx⟩; have hx' := hx.symm; clear hx; subst hx')
            go_still_tail 13, (by kernel_rfl)
            change wpList _ _ _ _ _ wr.drew
            have hb6 : Below wr.heap.size wr wr.drew := G.bdrewN (Below.refl _ _) 1
            have HW6 := Lib.hid (HWi.out.low hb6)
            have HF6 := Lib.hid (HFi.out.low hb6)
            generalize wr.drew = w6 at *
            clear hb6 c0 c1 hlt
            have HZ := Lib.hid (HF6.out.cat (HW6.out.setall ⟨L.gen + 1, t, [], 0, 0, false⟩ rfl))
            rw [HWR.out]
            refine wpList_store_row rfl 85 (.tmp 84) (.tmp 83) rfl lb (lcells db ⟨L.gen + 1, t, [], 0, 0, false⟩ (.slice none 0 0)) rfl rfl 85 _ HW6.out.l.cells size85 rfl (lcells_one _ _) ?_
            generalize w6.setRow lb (lcells db ⟨L.gen + 1, t, [], 0, 0, false⟩ (.slice none 0 0)) = w7 at *
            go_wp2_with (fail)
            go_ret
            rw [HP2.out.1, HP2.out.2.1, HP2.out.2.2]
            exact ⟨rfl, HZ.out⟩
          · obtain ⟨d, rfl⟩ : ∃ d, c = d + 1 := ⟨c - 1, by omega⟩
            have hRi := HRi.out
            rw [remDn] at hRi
            obtain ⟨no, hno⟩ : ∃ no, no = L.gen * 100 + (d : Int) := ⟨_, rfl⟩
            rw [← hno] at hRi
            have hno2 : L.gen * 100 + ((d + 1 : Nat) : Int) - 1 = no := by omega
            rw [hno2]
            have hd : decide (L.gen * 100 ≤ no) = true := decide_eq_true (by omega)
            have hd2 : L.gen * 100 ≤ no := by omega
            have CRm := remove_any B db m si no wr HWi.out.t.d (HOi.out.bd (by omega))
            have hO2 := HOi.out.rem no
            obtain ⟨X, hX⟩ : ∃ X, remE si no = X := ⟨_, rfl⟩
            obtain ⟨s2, hs2⟩ : ∃ s2, remS si no = s2 := ⟨_, rfl⟩
            rw [hX, hs2] at CRm hRi
            rw [hs2] at hO2
            have CRm := Lib.hid CRm
            have HO2 := Lib.hid hO2
            have HRj := Lib.hid hRi
            have HNo2 := Lib.hid hno2
            have hnr : -10 ≤ no ∧ no ≤ 2000000 := by omega
            clear hRi hO2 hX hs2 hno hno2 HRi hc0
            go_upto_region 16 with (first
              | (go_at_call 53; refine (begin_any L.gen hgg _).mono ?_; rintro e wx ⟨rfl, hx⟩; have hx' := hx.symm; clear hx; subst hx')
              | (go_at_call 54; refine CRm.out.mono ?_; rintro e w8 ⟨rfl, hs8⟩; have HW8 := Lib.hid (HWi.out.dstep hs8); have HF8 := Lib.hid (HFi.out.disk hs8); clear hs8)
              | (go_at_call 57; refine (end_any B db m lb s2 L vi X _ HW8.out).mono ?_; rintro e w9 ⟨rfl, hs9⟩; have HS9 := Lib.hid (HF8.out.cat hs9); clear hs9))
            by_cases hX0 : X = 0
            · have hRk := HRj.out
              rw [if_neg (fun h => h hX0)] at hRk
              have HRk := Lib.hid hRk
              have hs9 := HS9.out
              rw [hX0, show ({ L with over := L.over || decide ((0 : Int) ≠ 0) } : LS) = L from endL_zero HOv.out] at hs9
              have HS9' := Lib.hid hs9
              clear hRk hs9 HS9
              subst hX0
              go_wp2_with (fail)
              go_roundw
              case rel => exact ⟨d, by omega, by rw [← HNo2.out]; exact congrArg (Value.int .i64) (by omega), Lib.hid ⟨s2, HS9'.out, HO2.out.mono (by omega), HRk.out⟩⟩
              case measure => have := HNo2.out; simp [intOf]; omega
            · have hRk := HRj.out
              rw [if_pos hX0] at hRk
              have hP := HP1.out
              rw [hRk, if_pos hX0] at hP
              have HP2 := Lib.hid hP
              have hX1 : (X != 0) = true := by simpa using hX0
              clear hRk hP hX0
              go_wp2_with (fail)
              go_ret
              rw [HP2.out.1, HP2.out.2.1, HP2.out.2.2]
              exact ⟨rfl, HS9.out⟩
      · have hP := HP.out
        rw [if_pos hE0, if_pos hE0, if_pos hE0] at hP
        have HP1 := Lib.hid hP
        have hE1 : (E != 0) = true := by simpa using hE0
        clear hP hE0
        go_wp2_with (fail)
        go_ret
        rw [HP1.out.1, HP1.out.2.1, HP1.out.2.2]
        exact ⟨rfl, HF4.out.mk' HW3.out⟩
    exact AllReadyH.nil
  exact AllReadyH.nil
end Go.Proofs.YtdmjbdecemajpaaDoor.D
