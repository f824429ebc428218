/- A generation's segments; the last one tidied. -/
import Derived.Test.YtdmjbdecemajpaaDoorWk2
import Derived.Deep.RegionHeld3
namespace Go.Proofs.YtdmjbdecemajpaaDoor.D
set_option linter.unusedVariables false
set_option linter.unusedSimpArgs false
open Go.RowKit
theorem sees2 {w4 W w' : World} {a b : Addr} {x y : Value} (h : Below w4.heap.size w4 W ∧ W.cell? a = some x ∧ W.cell? b = some y) (hb : Below W.heap.size W w') : Below w4.heap.size w4 w' ∧ w'.cell? a = some x ∧ w'.cell? b = some y :=
  ⟨G.bthen h.1 hb, G.cell_below hb h.2.1, G.cell_below hb h.2.2⟩
theorem hold2 {p : Prop} {w4 W : World} {a b : Addr} {x y : Value} (h : Below w4.heap.size w4 W ∧ W.cell? a = some x ∧ W.cell? b = some y) (k : Hid (Below w4.heap.size w4 W) → p) : p := k (Lib.hid h.1)
/-- what a row of calls has left of the first world -/
structure WF (db m lb : Nat) (v : Value) (w : World) (v1 : Value) (w1 : World) : Prop where
  foot : ∀ j, WFoot db m lb v1 j → WFoot db m lb v j ∨ w.heap.size ≤ j
  fr : Fr (WFoot db m lb v) w w1
theorem WF.low {db m lb : Nat} {v v1 : Value} {w w1 w2 : World} (h : WF db m lb v w v1 w1) (hb : Below w1.heap.size w1 w2) : WF db m lb v w v1 w2 :=
  ⟨h.foot, h.fr.trans (Fr.of_below (F := WFoot db m lb v1) hb) h.foot⟩
theorem WF.cat {B db m lb : Nat} {v v1 : Value} {w w1 w2 : World} {s2 : DS} {L2 : LS} (h : WF db m lb v w v1 w1) (k : WStep B db m lb v1 w1 s2 L2 w2) : WStep B db m lb v w s2 L2 w2 := by
  obtain ⟨v2, k1, k2, k3⟩ := k
  refine ⟨v2, k1, fun j hj => ?_, h.fr.trans k3 h.foot⟩
  rcases k2 j hj with h4 | h4
  · exact h.foot j h4
  · exact .inr (Nat.le_trans h.fr.size h4)
theorem WInv.grown {B db m lb : Nat} {s : DS} {L : LS} {v : Value} {w w1 : World} (h : WInv B db m lb s L v w) (hg : w.grownBy w1 v.ownBlock) : (∀ i, w1.cell? ⟨lb, i, none⟩ = w.cell? ⟨lb, i, none⟩) ∧ (∀ i, w1.frozen? ⟨lb, i, none⟩ = false) ∧ lb < w1.heap.size := by
  have hh : w1.heap[lb]? = w.heap[lb]? := hg.block lb h.l.lt (fun e => h.l.off e.symm)
  refine ⟨fun i => by simp [World.cell?, hh], fun i => by simp [World.frozen?, hh, h.l.cells], Nat.lt_of_lt_of_le h.l.lt hg.size⟩
structure Sg where
  recs : List ByteArray
  last : Int
  good : Int
/-- a generation's segments from k on -/
def segP (s : DS) (g : Int) : Nat → Int → Sg → Sg
  | 0, _, x => x
  | n + 1, k, x => if (M.get s.files (g * 100 + k)).isSome = true then
      (if (scan (s.fl (g * 100 + k)).data).2 < (s.fl (g * 100 + k)).data.size then ⟨x.recs ++ (scan (s.fl (g * 100 + k)).data).1, k, (scan (s.fl (g * 100 + k)).data).2⟩
        else segP s g n (k + 1) ⟨x.recs ++ (scan (s.fl (g * 100 + k)).data).1, k, (scan (s.fl (g * 100 + k)).data).2⟩)
    else x
/-- what stands at the head of a round -/
structure SgI (B db m lb : Nat) (s : DS) (L : LS) (v : Value) (w : World) (R : Sg) (j : Nat) (x : Sg) (wr : World) : Prop where
  st : WStep B db m lb v w s { L with recs := x.recs, last := x.last } wr
  len : x.recs.length ≤ L.recs.length + 12500 * j
  goes : R = segP s L.gen (99 - j) (j + 1) x
set_option maxRecDepth 100000 in
set_option maxHeartbeats 4000000 in
theorem segments_any (B db m lb : Nat) (s : DS) (L : LS) (v : Value) (k : Nat) (w : World) (h : WInv B db m lb s L v w) (hO : Okk s k) (hoff : s.off = false) (hS : ∀ no, (s.fl no).data.size ≤ 100000) (hg : 0 ≤ L.gen ∧ L.gen ≤ 100000) (hr : L.recs.length ≤ 1000000) :
    Calls Tryd.prog 51 #[.pointer (some ⟨lb, 0, none⟩)] w fun e w' => e = .returned (.int .i64 (segP s L.gen 99 1 ⟨L.recs, L.last, 0⟩).good) ∧
      WStep B db m lb v w s { L with recs := (segP s L.gen 99 1 ⟨L.recs, L.last, 0⟩).recs, last := (segP s L.gen 99 1 ⟨L.recs, L.last, 0⟩).last } w' := by
  obtain ⟨R, hR⟩ : ∃ R, segP s L.gen 99 1 ⟨L.recs, L.last, 0⟩ = R := ⟨_, rfl⟩
  rw [hR]
  have HOff := Lib.hid hoff
  have HS := Lib.hid hS
  have HP0 : Hid (SgI B db m lb s L v w R 0 ⟨L.recs, L.last, 0⟩ w) := Lib.hid ⟨WStep.same h (Below.refl _ _), by show L.recs.length ≤ _; omega, hR.symm⟩
  have HR := Lib.hid hr
  clear h hO hoff hS hr hR
  go_enter Tryd.func51, Tryd.ntmps51
  go_wp2_with (fail)
  go_loopw [3, 4] (fun g i wr => ∃ (j : Nat) (x : Sg), j ≤ 99 ∧ i = .int .i64 (j + 1) ∧ g = .int .i64 x.good ∧ Hid (SgI B db m lb s L v w R j x wr)) (fun _ i _ => 100 - (intOf i).toNat)
  case atStart => exact ⟨0, ⟨L.recs, L.last, 0⟩, by omega, rfl, rfl, HP0⟩
  case round =>
    obtain ⟨j, x, hj, rfl, rfl, HK⟩ := hrel
    by_cases hj9 : j < 99
    · obtain ⟨⟨v1, hw, hfoot, hfr⟩, hlen, hto⟩ := HK.out
      have hto' : R = segP s L.gen ((98 - j) + 1) (j + 1) x := by rw [hto]; congr 1; omega
      rw [segP] at hto'
      obtain ⟨no, hno⟩ : ∃ no, no = L.gen * 100 + ((j : Int) + 1) := ⟨_, rfl⟩
      rw [← hno] at hto'
      have hcs := hw.l.cs
      have c0 := hcs.1
      have c1 := hcs.2.1
      have hlt := hw.l.lt
      have HW1 := Lib.hid hw
      have HF : Hid (WF db m lb v w v1 wr) := Lib.hid ⟨hfoot, hfr⟩
      have HSt : Hid (WStep B db m lb v w s { L with recs := x.recs, last := x.last } wr) := Lib.hid ⟨v1, hw, hfoot, hfr⟩
      have hx9 : ((j : Int) + 1) ≤ 99 := by omega
      have HTo := Lib.hid hto'
      have HLen := Lib.hid hlen
      clear hcs hw hfoot hfr hlen hto hto'
      have hcr : ∀ V, Below wr.heap.size wr V → Calls Tryd.prog 63 #[.pointer (some ⟨db, 0, none⟩), .int .i64 (L.gen * 100 + ((j : Int) + 1))] V fun e w' => e = .returned (.tuple #[.string (s.fl no).data, .bool (M.get s.files no).isSome]) ∧ Below V.heap.size V w' := fun V hV => by
        have := read_any B db m s no V (HW1.out.low hV).t.d
        rw [show readT s no = (s.fl no).data by rw [readT, HOff.out]; rfl, show readB s no = (M.get s.files no).isSome by rw [readB, HOff.out]; rfl] at this
        rw [← hno]; exact this
      have HWR : Hid (IntKind.i64.wrap (L.gen * 100 + ((j : Int) + 1)) = L.gen * 100 + ((j : Int) + 1)) := Lib.hid (by rw [IntKind.wrap_i64]; omega)
      have hds := HS.out no
      replace HTo := HTo.out
      obtain ⟨T, hT⟩ : ∃ T, (s.fl no).data = T := ⟨_, rfl⟩
      rw [hT] at hcr hds HTo
      cases hsome : (M.get s.files no).isSome
      · rw [hsome] at hcr HTo
        rw [if_neg (by decide)] at HTo
        replace HTo := Lib.hid HTo
        have HCR := Lib.hid hcr
        clear hcr hsome hT hno
        go_upto_region 5 with (fail)
        refine wp_region_held_drew (S := fun V => Below wr.heap.size wr V ∧ V.cell? ⟨lb, 0, none⟩ = some (.pointer (some ⟨db, 0, none⟩)) ∧ V.cell? ⟨lb, 1, none⟩ = some (.int .i64 L.gen)) (by kernel_rfl) ⟨G.bdrew (Below.refl _ _), c0, c1⟩ (fun hS0 => ?_)
        refine tk 0 14 (.pointer (some ⟨lb, 0, none⟩)) ?_
        try simp only [s1, s2, s3]
        refine tk 1 15 (.pointer (some ⟨lb, 0, none⟩)) ?_
        try simp only [s1, s2, s3]
        refine tk 2 16 (.pointer (some ⟨lb, 0, none⟩)) ?_
        try simp only [s1, s2, s3]
        refine tk 3 17 (.pointer (some ⟨db, 0, none⟩)) ?_ (hv := by (intro V hV; have c0 := hV.2.1; clear hV; go_simp; try rfl))
        try simp only [s1, s2, s3]
        refine tk 4 18 (.pointer (some ⟨lb, 0, none⟩)) ?_
        try simp only [s1, s2, s3]
        refine tk 5 19 (.pointer (some ⟨lb, 0, none⟩)) ?_
        try simp only [s1, s2, s3]
        refine tk 6 20 (.pointer (some ⟨lb, 1, none⟩)) ?_
        try simp only [s1, s2, s3]
        refine tk 7 21 (.int .i64 L.gen) ?_ (hv := by (intro V hV; have c1 := hV.2.2; clear hV; go_simp; try rfl))
        try simp only [s1, s2, s3]
        refine tk 9 23 (.int .i64 (j + 1)) ?_
        try simp only [s1, s2, s3]
        refine wpAnyH_ready (rs := [8]) (by kernel_rfl) (by simp) ?_
        refine AllReadyH.cons rfl (fun K hK => ?_) ?_
        · rw [if_pos (by rfl)]
          go_simp
          go_at_call 53
          refine (begin_any L.gen hg _).mono ?_
          rintro e w9 ⟨rfl, rfl⟩
          dsimp only
          refine hK.out _ _ ((by assumption)) (fun hHeld => ?_)
          clear hK K
          try simp only [Act.put, s1, s2, s3]
          refine tk 10 24 (.int .i64 (L.gen * 100 + (j + 1))) ?_ (hv := by (intro V hV; clear hV; go_simp; first | exact HWR.out | rw [HWR.out] | (rw [HWR.out]; rfl)))
          try simp only [s1, s2, s3]
          refine wpAnyH_ready (rs := [11]) (by kernel_rfl) (by simp) ?_
          refine AllReadyH.cons rfl (fun K hK => ?_) ?_
          · rw [if_pos (by rfl)]
            go_simp
            go_at_call 63
            refine (HCR.out _ (And.left (by assumption))).mono ?_
            rintro e w2 ⟨rfl, hb2⟩
            dsimp only
            refine hK.out _ _ (sees2 (by assumption) hb2) (fun hHeld => ?_)
            clear hK K
            try simp only [Act.put, s1, s2, s3]
            refine tk 12 13 (.tuple #[.string T, .bool false]) ?_
            try simp only [s1, s2, s3]
            refine tk 13 26 (.string T) ?_
            try simp only [s1, s2, s3]
            refine tk 14 27 (.bool false) ?_
            try simp only [s1, s2, s3]
            refine tk 15 5 (.string T) ?_
            try simp only [s1, s2, s3]
            refine tk 16 6 (.bool false) ?_
            try simp only [s1, s2, s3]
            refine wpAnyH_done (by kernel_rfl) ?_ _
            refine hold2 (by assumption) (fun HB2 => ?_)
            repeat clear hHeld
            clear hS0
            try dsimp only
            go_wp2
            go_ret
            rw [HTo.out]
            exact ⟨rfl, HSt.out.low HB2.out⟩
          exact AllReadyH.nil
        exact AllReadyH.nil
      · rw [hsome] at hcr HTo
        rw [if_pos rfl] at HTo
        have CS := fun W hW => scan_own T hds W hW
        have hsl := scan_le T
        obtain ⟨ls, hls⟩ : ∃ ls, (scan T).1 = ls := ⟨_, rfl⟩
        obtain ⟨z, hz⟩ : ∃ z, (scan T).2 = z := ⟨_, rfl⟩
        rw [hls, hz] at CS hsl HTo
        replace CS := Lib.hid CS
        replace HTo := Lib.hid HTo
        have HCR := Lib.hid hcr
        clear hcr hsome hT hno hls hz
        go_upto_region 5 with (fail)
        refine wp_region_held_drew (S := fun V => Below wr.heap.size wr V ∧ V.cell? ⟨lb, 0, none⟩ = some (.pointer (some ⟨db, 0, none⟩)) ∧ V.cell? ⟨lb, 1, none⟩ = some (.int .i64 L.gen)) (by kernel_rfl) ⟨G.bdrew (Below.refl _ _), c0, c1⟩ (fun hS0 => ?_)
        refine tk 0 14 (.pointer (some ⟨lb, 0, none⟩)) ?_
        try simp only [s1, s2, s3]
        refine tk 1 15 (.pointer (some ⟨lb, 0, none⟩)) ?_
        try simp only [s1, s2, s3]
        refine tk 2 16 (.pointer (some ⟨lb, 0, none⟩)) ?_
        try simp only [s1, s2, s3]
        refine tk 3 17 (.pointer (some ⟨db, 0, none⟩)) ?_ (hv := by (intro V hV; have c0 := hV.2.1; clear hV; go_simp; try rfl))
        try simp only [s1, s2, s3]
        refine tk 4 18 (.pointer (some ⟨lb, 0, none⟩)) ?_
        try simp only [s1, s2, s3]
        refine tk 5 19 (.pointer (some ⟨lb, 0, none⟩)) ?_
        try simp only [s1, s2, s3]
        refine tk 6 20 (.pointer (some ⟨lb, 1, none⟩)) ?_
        try simp only [s1, s2, s3]
        refine tk 7 21 (.int .i64 L.gen) ?_ (hv := by (intro V hV; have c1 := hV.2.2; clear hV; go_simp; try rfl))
        try simp only [s1, s2, s3]
        refine tk 9 23 (.int .i64 (j + 1)) ?_
        try simp only [s1, s2, s3]
        refine wpAnyH_ready (rs := [8]) (by kernel_rfl) (by simp) ?_
        refine AllReadyH.cons rfl (fun K hK => ?_) ?_
        · rw [if_pos (by rfl)]
          go_simp
          go_at_call 53
          refine (begin_any L.gen hg _).mono ?_
          rintro e w9 ⟨rfl, rfl⟩
          dsimp only
          refine hK.out _ _ ((by assumption)) (fun hHeld => ?_)
          clear hK K
          try simp only [Act.put, s1, s2, s3]
          refine tk 10 24 (.int .i64 (L.gen * 100 + (j + 1))) ?_ (hv := by (intro V hV; clear hV; go_simp; first | exact HWR.out | rw [HWR.out] | (rw [HWR.out]; rfl)))
          try simp only [s1, s2, s3]
          refine wpAnyH_ready (rs := [11]) (by kernel_rfl) (by simp) ?_
          refine AllReadyH.cons rfl (fun K hK => ?_) ?_
          · rw [if_pos (by rfl)]
            go_simp
            go_at_call 63
            refine (HCR.out _ (And.left (by assumption))).mono ?_
            rintro e w2 ⟨rfl, hb2⟩
            dsimp only
            refine hK.out _ _ (sees2 (by assumption) hb2) (fun hHeld => ?_)
            clear hK K
            try simp only [Act.put, s1, s2, s3]
            refine tk 12 13 (.tuple #[.string T, .bool true]) ?_
            try simp only [s1, s2, s3]
            refine tk 13 26 (.string T) ?_
            try simp only [s1, s2, s3]
            refine tk 14 27 (.bool true) ?_
            try simp only [s1, s2, s3]
            refine tk 15 5 (.string T) ?_
            try simp only [s1, s2, s3]
            refine tk 16 6 (.bool true) ?_
            try simp only [s1, s2, s3]
            refine wpAnyH_done (by kernel_rfl) ?_ _
            refine hold2 (by assumption) (fun HB2 => ?_)
            repeat clear hHeld
            clear hS0
            try dsimp only
            have HW2 := Lib.hid (HW1.out.low HB2.out)
            go_upto_region 8 with (first
              | (go_at_call 24; refine Calls.mono (CS.out _ (Lib.hid HW2.out.t.tab)) ?_; rintro e w4 ⟨rv, rfl, hown4, hb4⟩))
            have HW4 := Lib.hid (HW2.out.low hb4)
            have HF4 := Lib.hid (HF.out.low (G.bthen HB2.out hb4))
            have HOwn := Lib.hid hown4
            have c3 := HW4.out.l.cs.2.2.2.1
            have hlt := HW4.out.l.lt
            have HB : Hid (B ≤ w4.heap.size) := Lib.hid (Nat.le_trans HW4.out.l.hB (Nat.le_of_lt hlt))
            have hl1 : x.recs.length + ls.length ≤ 3000000 := by have := HLen.out; have := HR.out; omega
            clear hb4 hown4
            go_upto_region 9 with (at_builtin; refine app_own rfl _ _ 41 9 rfl B w2.heap.size 1 16 _ Tryd.underlying41 info9 rfl (by decide) v1 x.recs.length (strs x.recs) rfl HW4.out.l.row rv ls.length (strs ls) rfl HOwn.out (strs_one ls) (by unfold maxLen; omega) (by omega) HB.out ?_; intro v5 w5 hown5 hg5 hat5; obtain ⟨A5, c5, rfl⟩ := owns_shape hown5; have hst5 := HW4.out.setrow _ (x.recs ++ ls) (x.recs.length + ls.length) (by simp) hg5 (by rw [strs_append]; exact hown5) hat5; have hgr := HW4.out.grown hg5; have c3 := (hgr.1 3).trans c3; have f3 := hgr.2.1 3; have hlt := hgr.2.2; have HSt5 := Lib.hid hst5; clear hown5 hg5 hat5 hst5 hgr)
            have hst5 := HF4.out.cat HSt5.out
            generalize w5.setCell ⟨lb, 3, none⟩ (.slice A5 (x.recs.length + ls.length) c5) = w6 at *
            obtain ⟨v6, hw6, hfoot6, hfr6⟩ := hst5
            have c4 := hw6.l.cs.2.2.2.2.1
            have f4 := hw6.l.free 4
            have hlt6 := hw6.l.lt
            have HF6 : Hid (WF db m lb v w v6 w6) := Lib.hid ⟨hfoot6, hfr6⟩
            have hst7 := hw6.seti (L' := { L with recs := x.recs ++ ls, last := (j : Int) + 1 }) 4 (.int .i64 ((j : Int) + 1)) rfl rfl
            have HSt7 := Lib.hid (HF6.out.cat hst7)
            clear c3 f3 hlt hw6 hfoot6 hfr6 hst7
            by_cases hzT : z < T.size
            · replace HTo := HTo.out
              rw [if_pos hzT] at HTo
              replace HTo := Lib.hid HTo
              go_wp2
              go_ret
              rw [HTo.out]
              exact ⟨rfl, HSt7.out⟩
            · replace HTo := HTo.out
              rw [if_neg hzT] at HTo
              replace HTo := Lib.hid HTo
              go_wp2
              go_roundw
              case rel =>
                refine ⟨j + 1, ⟨x.recs ++ ls, (j : Int) + 1, z⟩, by omega, by go_num, rfl, Lib.hid ⟨HSt7.out, ?_, ?_⟩⟩
                · have := HLen.out
                  show (x.recs ++ ls).length ≤ _
                  rw [List.length_append]; omega
                · rw [HTo.out]
                  congr 1
                  omega
              case measure => simp [intOf]; omega
          exact AllReadyH.nil
        exact AllReadyH.nil
    · have : j = 99 := by omega
      subst this
      have hto := HK.out.goes
      have HSt := Lib.hid HK.out.st
      have HTo := Lib.hid hto
      clear hto
      go_wp2
      go_ret
      rw [HTo.out]
      exact ⟨rfl, HSt.out⟩
/-- the last segment is just its frames, and safe -/
def tidE (s : DS) (no good : Int) : Int := if good < (s.fl no).data.size then (if triE s no good ≠ 0 then triE s no good else synE (triS s no good) no) else synE s no
def tidS (s : DS) (no good : Int) : DS := if good < (s.fl no).data.size then (if triE s no good ≠ 0 then triS s no good else synS (triS s no good) no) else synS s no
set_option maxRecDepth 100000 in
set_option maxHeartbeats 4000000 in
theorem tidy_any (B db m lb : Nat) (s : DS) (L : LS) (v : Value) (k : Nat) (good : Int) (w : World) (h : WInv B db m lb s L v w) (hO : Okk s k) (hk : k ≤ 900000) (hoff : s.off = false) (hg : 0 ≤ L.gen ∧ L.gen ≤ 100000) (hl : 0 ≤ L.last ∧ L.last ≤ 1000) :
    Calls Tryd.prog 55 #[.pointer (some ⟨lb, 0, none⟩), .int .i64 good] w fun e w' => e = .returned (.int .i64 (tidE s (L.gen * 100 + L.last) good)) ∧ WStep B db m lb v w (tidS s (L.gen * 100 + L.last) good) L w' := by
  obtain ⟨no, hno⟩ : ∃ no, no = L.gen * 100 + L.last := ⟨_, rfl⟩
  have HW := Lib.hid h
  have HO := Lib.hid hO
  have hcs := h.l.cs
  have c0 := hcs.1
  have c1 := hcs.2.1
  have c4 := hcs.2.2.2.2.1
  have hlt := h.l.lt
  have HOff := Lib.hid hoff
  obtain ⟨T, hT⟩ : ∃ T, (s.fl no).data = T := ⟨_, rfl⟩
  have hTs := (fl_ok hO.fl no).2
  rw [show (M.get s.files no).getD fl0 = s.fl no from rfl, hT] at hTs
  have HPost : Hid (tidE s no good = (if good < T.size then (if triE s no good ≠ 0 then triE s no good else synE (triS s no good) no) else synE s no) ∧ tidS s no good = (if good < T.size then (if triE s no good ≠ 0 then triS s no good else synS (triS s no good) no) else synS s no)) := Lib.hid ⟨by rw [tidE, hT], by rw [tidS, hT]⟩
  have HT := Lib.hid hT
  rw [← hno]
  clear h hO hcs hoff hT
  go_enter Tryd.func55, Tryd.ntmps55
  go_upto_region 1 with (fail)
  go_quiet ((go_at_call 53; exact Calls.quiet_of_same (begin_any L.gen hg _)))
  rw [← hno]
  generalize hw1 : w.drewN nq = w1
  have hb1 : Below w.heap.size w w1 := by rw [← hw1]; exact G.bdrewN (Below.refl _ _) nq
  have HW1 := Lib.hid (HW.out.low hb1)
  have HB1 := Lib.hid hb1
  clear hw1 hb1 c0 c1 c4 hno hlt hg hl
  have c0 := HW1.out.l.cs.1
  have hlt := HW1.out.l.lt
  have hcr := read_any B db m s no w1 HW1.out.t.d
  rw [show readT s no = T by rw [readT, HOff.out, ← HT.out]; rfl] at hcr
  obtain ⟨b, hb⟩ : ∃ b, readB s no = b := ⟨_, rfl⟩
  rw [hb] at hcr
  have HCR := Lib.hid hcr
  clear hcr hb
  go_upto_region 3 with (go_at_call 63; refine HCR.out.mono ?_; rintro e w2 ⟨rfl, hb2⟩)
  have HW2 := Lib.hid (HW1.out.low hb2)
  have HB2 := Lib.hid (G.bthen HB1.out hb2)
  have c0 := HW2.out.l.cs.1
  have hlt := HW2.out.l.lt
  clear hb2
  by_cases hgT : good < T.size
  · have hP := HPost.out
    rw [if_pos hgT, if_pos hgT] at hP
    have CT := trim_any B db m s no good w2 HW2.out.t.d (HO.out.bd (by omega))
    have hO1 := HO.out.tri no good
    obtain ⟨E, hE⟩ : ∃ E, triE s no good = E := ⟨_, rfl⟩
    obtain ⟨s1, hs1⟩ : ∃ s1, triS s no good = s1 := ⟨_, rfl⟩
    rw [hE, hs1] at CT hP
    rw [hs1] at hO1
    have HP := Lib.hid hP
    replace CT := Lib.hid CT
    have HO1 := Lib.hid hO1
    clear hP hE hs1 hO1 HPost
    go_upto_region 5 with (go_at_call 68; refine CT.out.mono ?_; rintro e w3 ⟨rfl, hs3⟩)
    have HSt3 := Lib.hid (WStep.same HW.out HB2.out |>.then fun v1 h1 => WStep.disk h1 hs3)
    have HD3 := Lib.hid hs3
    have HW3 := Lib.hid (HW2.out.dstep hs3)
    have c0 := HW3.out.l.cs.1
    have hlt := HW3.out.l.lt
    clear hs3
    by_cases hE0 : E = 0
    · subst hE0
      have hP := HP.out
      rw [if_neg (by decide), if_neg (by decide)] at hP
      have HP := Lib.hid hP
      have CY := Lib.hid (sync_any B db m s1 no w3 HW3.out.t.d (HO1.out.bd (by omega)))
      clear hP
      go_wp2_with (go_at_call 59; refine CY.out.mono ?_; rintro e w4 ⟨rfl, hs4⟩)
      go_ret
      rw [HP.out.1, HP.out.2]
      exact ⟨rfl, HSt3.out.then fun v1 h1 => WStep.disk h1 hs4⟩
    · have hP := HP.out
      rw [if_pos hE0, if_pos hE0] at hP
      have HP := Lib.hid hP
      have hE1 : (E != 0) = true := by simpa using hE0
      clear hP
      go_wp2_with (fail)
      go_ret
      rw [HP.out.1, HP.out.2]
      exact ⟨rfl, HSt3.out⟩
  · have hP := HPost.out
    rw [if_neg hgT, if_neg hgT] at hP
    have HP := Lib.hid hP
    have CY := Lib.hid (sync_any B db m s no w2 HW2.out.t.d (HO.out.bd (by omega)))
    clear hP HPost
    go_wp2_with (go_at_call 59; refine CY.out.mono ?_; rintro e w4 ⟨rfl, hs4⟩)
    go_ret
    rw [HP.out.1, HP.out.2]
    exact ⟨rfl, WStep.same HW.out HB2.out |>.then fun v1 h1 => WStep.disk h1 hs4⟩
end Go.Proofs.YtdmjbdecemajpaaDoor.D
