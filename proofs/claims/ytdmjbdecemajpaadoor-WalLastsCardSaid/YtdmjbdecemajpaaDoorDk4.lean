/- The walks of the disk: Sync, Trim, Remove. -/
import Derived.Test.YtdmjbdecemajpaaDoorDk3
namespace Go.Proofs.YtdmjbdecemajpaaDoor.D
set_option linter.unusedVariables false
set_option linter.unusedSimpArgs false
open Go.RowKit
theorem Bd.step {s : DS} (h : Bd s) : (∀ no, (stepS s).fl no = s.fl no) ∧ (stepS s).files = s.files := by
  unfold stepS
  split <;> exact ⟨fun _ => rfl, rfl⟩
theorem stepS_files (s : DS) : (stepS s).files = s.files := by unfold stepS; split <;> rfl
theorem stepE_cases (s : DS) : stepE s = 0 ∨ stepE s = 6 := by unfold stepE; split <;> simp
set_option maxRecDepth 100000 in
set_option maxHeartbeats 4000000 in
theorem sync_any (B db m : Nat) (s : DS) (no : Int) (w : World) (h : DInv B db m s w) (hB : Bd s) :
    Calls Tryd.prog 59 #[.pointer (some ⟨db, 0, none⟩), .int .i64 no] w fun e w' => e = .returned (.int .i64 (synE s no)) ∧ DStep B db m w (synS s no) w' := by
  obtain ⟨E, hE⟩ : ∃ E, mayE s no true = E := ⟨_, rfl⟩
  have CM := may_any B db m s no true w h
  rw [hE] at CM
  have HM := Lib.hid CM
  have HI := Lib.hid h
  have HBd := Lib.hid hB
  clear CM
  by_cases h0 : E = 0
  · subst h0
    obtain ⟨f, hf⟩ : ∃ f, (M.get s.files no).getD fl0 = f := ⟨_, rfl⟩
    have hfs : (M.get (stepS s).files no).getD fl0 = f := by rw [stepS_files]; exact hf
    have hsz := hB.data no
    have hsf := hB.safe no
    rw [DS.fl_eq hf] at hsz hsf
    have HE := Lib.hid hE
    have HF := Lib.hid hf
    have HFS := Lib.hid hfs
    clear h hB hf hfs hE
    rcases stepE_cases s with hk | hk
    · have HK := Lib.hid hk
      have Ha : Hid (synE s no = 0 ∧ synS s no = (stepS s).put no ⟨f.data, f.data.size⟩) := Lib.hid (by
        unfold synE synS; rw [HE.out, hk, DS.fl_eq HF.out]; exact ⟨rfl, rfl⟩)
      have e0 : Hid (∀ V, Calls Tryd.prog 67 #[.pointer (some ⟨db, 0, none⟩)] V (fun e w' => e = .returned (.int .i64 (stepE s)) ∧ DStep B db m V (stepS s) w') → Calls Tryd.prog 67 #[.pointer (some ⟨db, 0, none⟩)] V (fun e w' => e = .returned (.int .i64 0) ∧ DStep B db m V (stepS s) w')) := Lib.hid (fun V hV => by rw [hk] at hV; exact hV)
      clear hk
      go_enter Tryd.func59, Tryd.ntmps59
      go_upto_region 7 with (first | (go_at_call 66; refine HM.out.mono ?_; rintro e w1 ⟨rfl, hb1⟩; have HB1 := Lib.hid hb1; have CS := Lib.hid (e0.out _ (step_any B db m s _ (HI.out.below hb1) HBd.out.steps HBd.out.fuse)); clear hb1) | (go_at_call 67; refine CS.out.mono ?_; rintro e w2 ⟨rfl, hs2⟩))
      have HS2 := Lib.hid hs2
      have c0 := hs2.1.c0
      have lk := look hs2.1.map no HFS.out 0
      rw [show w2.drewN 0 = w2 from rfl] at lk
      have hlt := hs2.1.lt
      clear hs2
      go_upto_region 9 with (fail)
      obtain ⟨W2, hW2⟩ : ∃ W2, W2 = w2.alloc (.cells #[.string f.data, .int .i64 f.data.size] 95) := ⟨_, rfl⟩
      have hb2 : Below w2.heap.size w2 W2 := by rw [hW2]; exact bel_allocT _ _
      have hbx : W2.heap[w2.heap.size]? = some (.cells #[.string f.data, .int .i64 f.data.size] 95 (0, 0)) := by rw [hW2]; exact G.heap_new _ _
      obtain ⟨xb, hxb⟩ : ∃ xb, xb = w2.heap.size := ⟨_, rfl⟩
      rw [← hxb] at hbx
      rw [← hW2, ← hxb]
      have hI2 := HS2.out.1.below hb2
      have k0 := hI2.c0
      have x0 : W2.cell? ⟨xb, 0, none⟩ = some (.string f.data) := by simp [World.cell?, hbx]
      have x1 : W2.cell? ⟨xb, 1, none⟩ = some (.int .i64 f.data.size) := by simp [World.cell?, hbx]
      have lx : xb < W2.heap.size := (Array.getElem?_eq_some_iff.1 hbx).1
      have lt2 := hI2.lt
      obtain ⟨o, ho1, ho2⟩ := mput hI2 no ⟨f.data, f.data.size⟩
      have mu := mu_drew ho1
      have HO := Lib.hid (ho2 1)
      have HF2 := Lib.hid ((Fr.of_below (F := Foot db m) hb2).trans (fr_upd (F := Foot db m) W2 1 m o (.inr rfl)) (fun _ hj => .inl hj))
      clear ho1 ho2 hI2 hb2 hbx hW2 hxb c0 lk hlt
      go_region
      go_wp2
      go_ret
      rw [Ha.out.1, Ha.out.2]
      exact ⟨rfl, DStep.from' ((Fr.of_below (F := Foot db m) HB1.out).trans HS2.out.2 (fun _ hj => .inl hj)) ⟨HO.out, HF2.out⟩⟩
    · have Ha : Hid (synE s no = 6 ∧ synS s no = stepS s) := Lib.hid (by unfold synE synS; rw [HE.out, hk]; exact ⟨rfl, rfl⟩)
      have e0 : Hid (∀ V, Calls Tryd.prog 67 #[.pointer (some ⟨db, 0, none⟩)] V (fun e w' => e = .returned (.int .i64 (stepE s)) ∧ DStep B db m V (stepS s) w') → Calls Tryd.prog 67 #[.pointer (some ⟨db, 0, none⟩)] V (fun e w' => e = .returned (.int .i64 6) ∧ DStep B db m V (stepS s) w')) := Lib.hid (fun V hV => by rw [hk] at hV; exact hV)
      clear hk
      go_enter Tryd.func59, Tryd.ntmps59
      go_wp2_with (first | (go_at_call 66; refine HM.out.mono ?_; rintro e w1 ⟨rfl, hb1⟩; have HB1 := Lib.hid hb1; have CS := Lib.hid (e0.out _ (step_any B db m s _ (HI.out.below hb1) HBd.out.steps HBd.out.fuse)); clear hb1) | (go_at_call 67; refine CS.out.mono ?_; rintro e w2 ⟨rfl, hs2⟩))
      go_ret
      rw [Ha.out.1, Ha.out.2]
      exact ⟨rfl, DStep.from' (Fr.of_below (F := Foot db m) HB1.out) hs2⟩
  · have d1 : (E != 0) = true := by simpa using h0
    have d2 : (E == 0) = false := by simpa using h0
    have Ha := Lib.hid (show synE s no = E ∧ synS s no = s by unfold synE synS; rw [hE, if_pos h0, if_pos h0]; exact ⟨rfl, rfl⟩)
    clear h hB h0 hE
    go_enter Tryd.func59, Tryd.ntmps59
    go_wp2_with (go_at_call 66; refine HM.out.mono ?_; rintro e w1 ⟨rfl, hb1⟩; have HB1 := Lib.hid hb1; clear hb1)
    go_ret
    rw [Ha.out.1, Ha.out.2]
    exact ⟨rfl, DStep.same HI.out HB1.out⟩
set_option maxRecDepth 100000 in
set_option maxHeartbeats 4000000 in
theorem remove_any (B db m : Nat) (s : DS) (no : Int) (w : World) (h : DInv B db m s w) (hB : Bd s) :
    Calls Tryd.prog 54 #[.pointer (some ⟨db, 0, none⟩), .int .i64 no] w fun e w' => e = .returned (.int .i64 (remE s no)) ∧ DStep B db m w (remS s no) w' := by
  obtain ⟨E, hE⟩ : ∃ E, mayE s no true = E := ⟨_, rfl⟩
  have CM := may_any B db m s no true w h
  rw [hE] at CM
  have HM := Lib.hid CM
  have HI := Lib.hid h
  have HBd := Lib.hid hB
  clear CM
  by_cases h0 : E = 0
  · subst h0
    obtain ⟨f, hf⟩ : ∃ f, (M.get s.files no).getD fl0 = f := ⟨_, rfl⟩
    have hfs : (M.get (stepS s).files no).getD fl0 = f := by rw [stepS_files]; exact hf
    have hsz := hB.data no
    have hsf := hB.safe no
    rw [DS.fl_eq hf] at hsz hsf
    have HE := Lib.hid hE
    have HF := Lib.hid hf
    have HFS := Lib.hid hfs
    clear h hB hf hfs hE
    rcases stepE_cases s with hk | hk
    · have HK := Lib.hid hk
      have Ha : Hid (remE s no = 0 ∧ remS s no = (stepS s).del no) := Lib.hid (by
        unfold remE synE remS; rw [HE.out, hk]; exact ⟨rfl, rfl⟩)
      have e0 : Hid (∀ V, Calls Tryd.prog 67 #[.pointer (some ⟨db, 0, none⟩)] V (fun e w' => e = .returned (.int .i64 (stepE s)) ∧ DStep B db m V (stepS s) w') → Calls Tryd.prog 67 #[.pointer (some ⟨db, 0, none⟩)] V (fun e w' => e = .returned (.int .i64 0) ∧ DStep B db m V (stepS s) w')) := Lib.hid (fun V hV => by rw [hk] at hV; exact hV)
      clear hk
      go_enter Tryd.func54, Tryd.ntmps54
      go_upto_region 7 with (first | (go_at_call 66; refine HM.out.mono ?_; rintro e w1 ⟨rfl, hb1⟩; have HB1 := Lib.hid hb1; have CS := Lib.hid (e0.out _ (step_any B db m s _ (HI.out.below hb1) HBd.out.steps HBd.out.fuse)); clear hb1) | (go_at_call 67; refine CS.out.mono ?_; rintro e w2 ⟨rfl, hs2⟩))
      have HS2 := Lib.hid hs2
      have c0 := hs2.1.c0
      have hlt := hs2.1.lt
      obtain ⟨o, ho1, ho2⟩ := mdel hs2.1 0 no
      have mu : (Builtin.delete_ #[79, 3] 0 #[.map (some m), .int .i64 no]).run Tryd.prog w2 = .ok (.tuple #[]) (M.upd w2 m o) := ho1 0
      have HO := Lib.hid (ho2 0)
      have HF2 := Lib.hid (fr_upd (F := Foot db m) w2 0 m o (.inr rfl))
      clear ho1 ho2 hs2
      go_wp2
      go_ret
      rw [Ha.out.1, Ha.out.2]
      exact ⟨rfl, DStep.from' ((Fr.of_below (F := Foot db m) HB1.out).trans HS2.out.2 (fun _ hj => .inl hj)) ⟨HO.out, HF2.out⟩⟩
    · have Ha : Hid (remE s no = 6 ∧ remS s no = stepS s) := Lib.hid (by unfold remE synE remS; rw [HE.out, hk]; exact ⟨rfl, rfl⟩)
      have e0 : Hid (∀ V, Calls Tryd.prog 67 #[.pointer (some ⟨db, 0, none⟩)] V (fun e w' => e = .returned (.int .i64 (stepE s)) ∧ DStep B db m V (stepS s) w') → Calls Tryd.prog 67 #[.pointer (some ⟨db, 0, none⟩)] V (fun e w' => e = .returned (.int .i64 6) ∧ DStep B db m V (stepS s) w')) := Lib.hid (fun V hV => by rw [hk] at hV; exact hV)
      clear hk
      go_enter Tryd.func54, Tryd.ntmps54
      go_wp2_with (first | (go_at_call 66; refine HM.out.mono ?_; rintro e w1 ⟨rfl, hb1⟩; have HB1 := Lib.hid hb1; have CS := Lib.hid (e0.out _ (step_any B db m s _ (HI.out.below hb1) HBd.out.steps HBd.out.fuse)); clear hb1) | (go_at_call 67; refine CS.out.mono ?_; rintro e w2 ⟨rfl, hs2⟩))
      go_ret
      rw [Ha.out.1, Ha.out.2]
      exact ⟨rfl, DStep.from' (Fr.of_below (F := Foot db m) HB1.out) hs2⟩
  · have d1 : (E != 0) = true := by simpa using h0
    have d2 : (E == 0) = false := by simpa using h0
    have Ha := Lib.hid (show remE s no = E ∧ remS s no = s by unfold remE synE remS; rw [hE, if_pos h0, if_pos h0]; exact ⟨rfl, rfl⟩)
    clear h hB h0 hE
    go_enter Tryd.func54, Tryd.ntmps54
    go_wp2_with (go_at_call 66; refine HM.out.mono ?_; rintro e w1 ⟨rfl, hb1⟩; have HB1 := Lib.hid hb1; clear hb1)
    go_ret
    rw [Ha.out.1, Ha.out.2]
    exact ⟨rfl, DStep.same HI.out HB1.out⟩
set_option maxRecDepth 100000 in
set_option maxHeartbeats 4000000 in
theorem trim_any (B db m : Nat) (s : DS) (no : Int) (z : Int) (w : World) (h : DInv B db m s w) (hB : Bd s) :
    Calls Tryd.prog 68 #[.pointer (some ⟨db, 0, none⟩), .int .i64 no, .int .i64 z] w fun e w' => e = .returned (.int .i64 (triE s no z)) ∧ DStep B db m w (triS s no z) w' := by
  obtain ⟨E, hE⟩ : ∃ E, mayE s no true = E := ⟨_, rfl⟩
  have CM := may_any B db m s no true w h
  rw [hE] at CM
  have HM := Lib.hid CM
  have HI := Lib.hid h
  have HBd := Lib.hid hB
  clear CM
  by_cases h0 : E = 0
  · subst h0
    obtain ⟨f, hf⟩ : ∃ f, (M.get s.files no).getD fl0 = f := ⟨_, rfl⟩
    have hfs : (M.get (stepS s).files no).getD fl0 = f := by rw [stepS_files]; exact hf
    have hsz := hB.data no
    have hsf := hB.safe no
    rw [DS.fl_eq hf] at hsz hsf
    have HE := Lib.hid hE
    have HF := Lib.hid hf
    have HFS := Lib.hid hfs
    clear h hB hf hfs hE
    by_cases hz : z < 0 ∨ (f.data.size : Int) < z
    · have Ha : Hid (triE s no z = 1 ∧ triS s no z = s) := Lib.hid (by unfold triE triS; rw [HE.out, DS.fl_eq HF.out, if_pos hz, if_pos hz]; exact ⟨rfl, rfl⟩)
      by_cases h1 : z < 0
      · have d1 : decide (z < 0) = true := decide_eq_true h1
        clear hz h1
        go_enter Tryd.func68, Tryd.ntmps68
        go_upto_region 4 with (go_at_call 66; refine HM.out.mono ?_; rintro e w1 ⟨rfl, hb1⟩)
        have HB1 := Lib.hid hb1
        have c0 := (HI.out.below hb1).c0
        have lk := look (HI.out.below hb1).map no HF.out 0
        rw [show w1.drewN 0 = w1 from rfl] at lk
        have hlt := (HI.out.below hb1).lt
        clear hb1
        go_wp2
        go_ret
        rw [Ha.out.1, Ha.out.2]
        exact ⟨rfl, DStep.same HI.out (G.bthen HB1.out (bel_allocT _ _))⟩
      · have d1 : decide (z < 0) = false := decide_eq_false h1
        have d2 : decide ((f.data.size : Int) < z) = true := decide_eq_true (by omega)
        clear hz h1
        go_enter Tryd.func68, Tryd.ntmps68
        go_upto_region 4 with (go_at_call 66; refine HM.out.mono ?_; rintro e w1 ⟨rfl, hb1⟩)
        have HB1 := Lib.hid hb1
        have c0 := (HI.out.below hb1).c0
        have lk := look (HI.out.below hb1).map no HF.out 0
        rw [show w1.drewN 0 = w1 from rfl] at lk
        have hlt := (HI.out.below hb1).lt
        clear hb1
        go_wp2
        go_ret
        rw [Ha.out.1, Ha.out.2]
        exact ⟨rfl, DStep.same HI.out (G.bthen HB1.out (bel_allocT _ _))⟩
    · have HZ := Lib.hid hz
      obtain ⟨y, rfl⟩ : ∃ y : Nat, z = (y : Int) := ⟨z.toNat, by omega⟩
      have hy : y ≤ f.data.size := by omega
      have d1 : decide ((y : Int) < 0) = false := decide_eq_false (by omega)
      have d2 : decide ((f.data.size : Int) < (y : Int)) = false := decide_eq_false (by omega)
      have d3 : decide (f.data.size < y) = false := decide_eq_false (by omega)
      clear hz
      rcases stepE_cases s with hk | hk
      · have Ha : Hid (triE s no y = 0 ∧ triS s no y = (stepS s).put no ⟨f.data.extract 0 y, min f.safe y⟩) := Lib.hid (by
          unfold triE triS; rw [HE.out, DS.fl_eq HF.out, if_neg HZ.out, if_neg HZ.out, hk]; exact ⟨rfl, rfl⟩)
        have e0 : Hid (∀ V, Calls Tryd.prog 67 #[.pointer (some ⟨db, 0, none⟩)] V (fun e w' => e = .returned (.int .i64 (stepE s)) ∧ DStep B db m V (stepS s) w') → Calls Tryd.prog 67 #[.pointer (some ⟨db, 0, none⟩)] V (fun e w' => e = .returned (.int .i64 0) ∧ DStep B db m V (stepS s) w')) := Lib.hid (fun V hV => by rw [hk] at hV; exact hV)
        clear hk
        go_enter Tryd.func68, Tryd.ntmps68
        go_upto_region 4 with (go_at_call 66; refine HM.out.mono ?_; rintro e w1 ⟨rfl, hb1⟩)
        have HB1 := Lib.hid hb1
        have c0 := (HI.out.below hb1).c0
        have lk := look (HI.out.below hb1).map no HF.out 0
        rw [show w1.drewN 0 = w1 from rfl] at lk
        have hlt := (HI.out.below hb1).lt
        have hbx := bel_allocT w1 (.cells #[.string f.data, .int .i64 f.safe] 95)
        have CS := Lib.hid (e0.out _ (step_any B db m s _ ((HI.out.below hb1).below hbx) HBd.out.steps HBd.out.fuse))
        have HK := Lib.hid (K1.new (HI.out.below hb1) (.cells #[.string f.data, .int .i64 f.safe] 95))
        have HBX := Lib.hid (G.bthen HB1.out hbx)
        clear hb1 hbx
        go_upto_region 10 with (go_at_call 67; refine CS.out.mono ?_; rintro e w2 ⟨rfl, hs2⟩)
        have HS2 := Lib.hid hs2
        have kx := (HK.out.step hs2).is
        obtain ⟨xb, hxb⟩ : ∃ xb, xb = w1.heap.size := ⟨_, rfl⟩
        rw [← hxb] at kx
        rw [← hxb]
        have k0 := hs2.1.c0
        have x0 : w2.cell? ⟨xb, 0, none⟩ = some (.string f.data) := by simp [World.cell?, kx]
        have x1 : w2.cell? ⟨xb, 1, none⟩ = some (.int .i64 f.safe) := by simp [World.cell?, kx]
        have lx : xb < w2.heap.size := (Array.getElem?_eq_some_iff.1 kx).1
        have lt2 := hs2.1.lt
        obtain ⟨o, ho1, ho2⟩ := mput hs2.1 no ⟨f.data.extract 0 y, min f.safe y⟩
        have mu := mu_drew ho1
        have HO := Lib.hid (ho2 1)
        have HF2 := Lib.hid (fr_upd (F := Foot db m) w2 1 m o (.inr rfl))
        have hP : (if y < f.safe then (y : Int) else (f.safe : Int)) = ((min f.safe y : Nat) : Int) := by split <;> omega
        clear ho1 ho2 hs2 kx hxb c0 lk hlt
        rw [← hP] at mu
        clear hP
        go_region
        go_wp2
        all_goals
          go_ret
          rw [Ha.out.1, Ha.out.2]
          exact ⟨rfl, DStep.from' ((Fr.of_below (F := Foot db m) HBX.out).trans HS2.out.2 (fun _ hj => .inl hj)) ⟨HO.out, HF2.out⟩⟩
      · have Ha : Hid (triE s no y = 6 ∧ triS s no y = stepS s) := Lib.hid (by
          unfold triE triS; rw [HE.out, DS.fl_eq HF.out, if_neg HZ.out, if_neg HZ.out, hk]; exact ⟨rfl, rfl⟩)
        have e0 : Hid (∀ V, Calls Tryd.prog 67 #[.pointer (some ⟨db, 0, none⟩)] V (fun e w' => e = .returned (.int .i64 (stepE s)) ∧ DStep B db m V (stepS s) w') → Calls Tryd.prog 67 #[.pointer (some ⟨db, 0, none⟩)] V (fun e w' => e = .returned (.int .i64 6) ∧ DStep B db m V (stepS s) w')) := Lib.hid (fun V hV => by rw [hk] at hV; exact hV)
        clear hk
        go_enter Tryd.func68, Tryd.ntmps68
        go_upto_region 4 with (go_at_call 66; refine HM.out.mono ?_; rintro e w1 ⟨rfl, hb1⟩)
        have HB1 := Lib.hid hb1
        have c0 := (HI.out.below hb1).c0
        have lk := look (HI.out.below hb1).map no HF.out 0
        rw [show w1.drewN 0 = w1 from rfl] at lk
        have hlt := (HI.out.below hb1).lt
        have hbx := bel_allocT w1 (.cells #[.string f.data, .int .i64 f.safe] 95)
        have CS := Lib.hid (e0.out _ (step_any B db m s _ ((HI.out.below hb1).below hbx) HBd.out.steps HBd.out.fuse))
        have HBX := Lib.hid (G.bthen HB1.out hbx)
        clear hb1 hbx
        go_wp2_with (go_at_call 67; refine CS.out.mono ?_; rintro e w2 ⟨rfl, hs2⟩)
        go_ret
        rw [Ha.out.1, Ha.out.2]
        exact ⟨rfl, DStep.from' (Fr.of_below (F := Foot db m) HBX.out) hs2⟩
  · have d1 : (E != 0) = true := by simpa using h0
    have d2 : (E == 0) = false := by simpa using h0
    have Ha := Lib.hid (show triE s no z = E ∧ triS s no z = s by unfold triE triS; rw [hE, if_pos h0, if_pos h0]; exact ⟨rfl, rfl⟩)
    clear h hB h0 hE
    go_enter Tryd.func68, Tryd.ntmps68
    go_wp2_with (go_at_call 66; refine HM.out.mono ?_; rintro e w1 ⟨rfl, hb1⟩; have HB1 := Lib.hid hb1; clear hb1)
    go_ret
    rw [Ha.out.1, Ha.out.2]
    exact ⟨rfl, DStep.same HI.out HB1.out⟩
end Go.Proofs.YtdmjbdecemajpaaDoor.D
