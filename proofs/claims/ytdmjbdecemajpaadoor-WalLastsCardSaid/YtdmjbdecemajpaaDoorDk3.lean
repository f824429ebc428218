/- The walks of the disk: Append. -/
import Derived.Test.YtdmjbdecemajpaaDoorDk2
namespace Go.Proofs.YtdmjbdecemajpaaDoor.D
set_option linter.unusedVariables false
set_option linter.unusedSimpArgs false
open Go.RowKit
/-- sizes that the walks ask for -/
structure Bd (s : DS) : Prop where
  steps : 0 ≤ s.steps ∧ s.steps ≤ 1000000000
  fuse : 0 ≤ s.fuse ∧ s.fuse ≤ 9223372036854775807
  data : ∀ no, (s.fl no).data.size ≤ 1048576
  safe : ∀ no, (s.fl no).safe ≤ (s.fl no).data.size
  len : s.files.length ≤ 1000
theorem DS.fl_eq {s : DS} {no : Int} {f : Fl} (h : (M.get s.files no).getD fl0 = f) : s.fl no = f := h
theorem mu_drew {W : World} {m : Nat} {no : Int} {v : Value} {o : Obj} (h : ∀ n, (Instr.mapUpdate 79 (.map (some m)) (.int .i64 no) v).run Tryd.prog (W.drewN n) = .ok () (M.upd (W.drewN n) m o)) :
    (Instr.mapUpdate 79 (.map (some m)) (.int .i64 no) v).run Tryd.prog W.drew = .ok () (M.upd W.drew m o) := h 1
set_option maxRecDepth 100000 in
set_option maxHeartbeats 4000000 in
theorem append_any (B db m : Nat) (s : DS) (no : Int) (t : ByteArray) (w : World) (h : DInv B db m s w) (hB : Bd s) (ht : t.size ≤ 1000000) :
    Calls Tryd.prog 58 #[.pointer (some ⟨db, 0, none⟩), .int .i64 no, .string t] w fun e w' => e = .returned (.int .i64 (appE s no t)) ∧ DStep B db m w (appS s no t) w' := by
  obtain ⟨E, hE⟩ : ∃ E, mayE s no false = E := ⟨_, rfl⟩
  have CM := may_any B db m s no false w h
  rw [hE] at CM
  have HM := Lib.hid CM
  have HI := Lib.hid h
  clear CM
  by_cases h0 : E = 0
  · subst h0
    obtain ⟨f, hf⟩ : ∃ f, (M.get s.files no).getD fl0 = f := ⟨_, rfl⟩
    obtain ⟨b, hb⟩ : ∃ b, (M.get s.files no).isSome = b := ⟨_, rfl⟩
    have hsz := hB.data no
    rw [DS.fl_eq hf] at hsz
    have e1 : appE s no t = if 1048576 < f.data.size + t.size then 5 else if b = false ∧ 110 ≤ s.files.length then 9 else stepE s := by
      unfold appE; rw [hE, DS.fl_eq hf, hb]; rfl
    have e2 : appS s no t = if 1048576 < f.data.size + t.size then s else if b = false ∧ 110 ≤ s.files.length then s else stepS (s.put no ⟨f.data ++ t, f.safe⟩) := by
      unfold appS; rw [hE, DS.fl_eq hf, hb]; rfl
    have E1 := Lib.hid e1
    have E2 := Lib.hid e2
    have HF := Lib.hid hf
    have HBb := Lib.hid hb
    have HBd := Lib.hid hB
    have ln : ∀ W, Below w.heap.size w W → (Builtin.len_ #[79] 3 #[.map (some m)]).run Tryd.prog W = .ok (.int .i64 s.files.length) W := fun W hW => by
      have := M.len_run Tryd.underlying79 3 (h.below hW).map
      rw [mi_length] at this
      exact this
    have HLN := Lib.hid ln
    have hlb := hB.len
    obtain ⟨L, hL⟩ : ∃ L, s.files.length = L := ⟨_, rfl⟩
    rw [hL] at hlb
    have HL := Lib.hid hL
    clear h hB e1 e2 hf hb ln hE hL
    by_cases hbig : 1048576 < f.data.size + t.size
    · have hbig' : (1048576 : Int) < (f.data.size : Int) + (t.size : Int) := by omega
      have d1 : decide ((1048576 : Int) < (f.data.size : Int) + (t.size : Int)) = true := decide_eq_true hbig'
      have HX := Lib.hid hbig
      clear hbig hbig'
      go_enter Tryd.func58, Tryd.ntmps58
      go_upto_region 4 with (go_at_call 66; refine HM.out.mono ?_; rintro e w1 ⟨rfl, hb1⟩)
      have HB1 := Lib.hid hb1
      have c0 := (HI.out.below hb1).c0
      have lk := lookT (HI.out.below hb1).map no HF.out HBb.out 0
      rw [show w1.drewN 0 = w1 from rfl] at lk
      have hlt := (HI.out.below hb1).lt
      clear hb1
      go_wp2
      go_ret
      rw [E1.out, E2.out, if_pos HX.out, if_pos HX.out]
      exact ⟨rfl, DStep.same HI.out (G.bthen HB1.out (bel_allocT _ _))⟩
    · have hsm : f.data.size + t.size ≤ 1048576 := by omega
      have d1 : decide ((1048576 : Int) < (f.data.size : Int) + (t.size : Int)) = false := decide_eq_false (by omega)
      have HX := Lib.hid hbig
      clear hbig
      by_cases hfull : b = false ∧ 110 ≤ L
      · obtain ⟨rfl, hl⟩ := hfull
        have d2 : decide ((110 : Int) ≤ (L : Int)) = true := decide_eq_true (by omega)
        have HFU := Lib.hid hl
        clear hl
        go_enter Tryd.func58, Tryd.ntmps58
        go_upto_region 4 with (go_at_call 66; refine HM.out.mono ?_; rintro e w1 ⟨rfl, hb1⟩)
        have HB1 := Lib.hid hb1
        have c0 := (HI.out.below hb1).c0
        have lk := lookT (HI.out.below hb1).map no HF.out HBb.out 0
        rw [show w1.drewN 0 = w1 from rfl] at lk
        have hlt := (HI.out.below hb1).lt
        have ln := HLN.out _ (G.bthen hb1 (bel_allocT w1 (.cells #[.string f.data, .int .i64 f.safe] 95)))
        rw [HL.out] at ln
        clear hb1
        go_wp2
        go_ret
        rw [E1.out, E2.out, if_neg HX.out, if_neg HX.out, if_pos ⟨by first | rfl | trivial, by rw [HL.out]; exact HFU.out⟩, if_pos ⟨by first | rfl | trivial, by rw [HL.out]; exact HFU.out⟩]
        exact ⟨rfl, DStep.same HI.out (G.bthen HB1.out (bel_allocT _ _))⟩
      · have HFU := Lib.hid hfull
        have d2 : b = false → decide ((110 : Int) ≤ (L : Int)) = false := fun hh => decide_eq_false (fun h2 => hfull ⟨hh, by omega⟩)
        clear hfull
        have fin : Hid (appE s no t = stepE s ∧ appS s no t = stepS (s.put no ⟨f.data ++ t, f.safe⟩)) := Lib.hid (by
          rw [E1.out, E2.out, if_neg HX.out, if_neg HX.out, if_neg (by rw [HL.out]; exact HFU.out), if_neg (by rw [HL.out]; exact HFU.out)]; exact ⟨rfl, rfl⟩)
        clear E1 E2 HFU HX
        cases b
        all_goals
          first
          | (have d3 := d2 rfl; clear d2)
          | clear d2
          go_enter Tryd.func58, Tryd.ntmps58
          go_upto_region 4 with (go_at_call 66; refine HM.out.mono ?_; rintro e w1 ⟨rfl, hb1⟩)
          have HB1 := Lib.hid hb1
          have c0 := (HI.out.below hb1).c0
          have lk := lookT (HI.out.below hb1).map no HF.out HBb.out 0
          rw [show w1.drewN 0 = w1 from rfl] at lk
          have hlt := (HI.out.below hb1).lt
          have ln := HLN.out _ (G.bthen hb1 (bel_allocT w1 (.cells #[.string f.data, .int .i64 f.safe] 95)))
          rw [HL.out] at ln
          clear hb1
          go_upto_region 10 with (fail)
          obtain ⟨W2, hW2⟩ : ∃ W2, W2 = w1.alloc (.cells #[.string (f.data ++ t), .int .i64 f.safe] 95) := ⟨_, rfl⟩
          have hb2 : Below w.heap.size w W2 := by rw [hW2]; exact G.bthen HB1.out (bel_allocT _ _)
          have hbx : W2.heap[w1.heap.size]? = some (.cells #[.string (f.data ++ t), .int .i64 f.safe] 95 (0, 0)) := by rw [hW2]; exact G.heap_new _ _
          obtain ⟨xb, hxb⟩ : ∃ xb, xb = w1.heap.size := ⟨_, rfl⟩
          rw [← hxb] at hbx
          rw [← hW2, ← hxb]
          have hI2 := HI.out.below hb2
          have k0 := hI2.c0
          have x0 : W2.cell? ⟨xb, 0, none⟩ = some (.string (f.data ++ t)) := by simp [World.cell?, hbx]
          have x1 : W2.cell? ⟨xb, 1, none⟩ = some (.int .i64 f.safe) := by simp [World.cell?, hbx]
          have lx : xb < W2.heap.size := (Array.getElem?_eq_some_iff.1 hbx).1
          have lt2 := hI2.lt
          obtain ⟨o, ho1, ho2⟩ := mput hI2 no ⟨f.data ++ t, f.safe⟩
          have mu := mu_drew ho1
          have HO := Lib.hid (ho2 1)
          have HF2 := Lib.hid ((Fr.of_below (F := Foot db m) hb2).trans (fr_upd (F := Foot db m) W2 1 m o (.inr rfl)) (fun _ hj => .inl hj))
          clear ho1 ho2 hI2 hb2 hbx hW2 hxb c0 lk ln hlt
          go_region
          have CS := Lib.hid (step_any B db m _ _ HO.out HBd.out.steps HBd.out.fuse)
          clear mu k0 x0 x1 lx lt2
          go_wp2_with (go_at_call 67; refine CS.out.mono ?_; rintro e w9 ⟨rfl, hs⟩)
          go_ret
          rw [fin.out.1, fin.out.2]
          exact ⟨rfl, DStep.from' HF2.out hs⟩
  · have d1 : (E != 0) = true := by simpa using h0
    have d2 : (E == 0) = false := by simpa using h0
    have Ha := Lib.hid (show appE s no t = E ∧ appS s no t = s by unfold appE appS; rw [hE, if_pos h0, if_pos h0]; exact ⟨rfl, rfl⟩)
    clear h hB h0 hE
    go_enter Tryd.func58, Tryd.ntmps58
    go_wp2_with (go_at_call 66; refine HM.out.mono ?_; rintro e w1 ⟨rfl, hb1⟩; have HB1 := Lib.hid hb1; clear hb1)
    go_ret
    rw [Ha.out.1, Ha.out.2]
    exact ⟨rfl, DStep.same HI.out HB1.out⟩
end Go.Proofs.YtdmjbdecemajpaaDoor.D
