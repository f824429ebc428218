/- QueueNil: does, and the law. -/
import Derived.Test.YthmknlflgajnpaaRef10
namespace Go.Proofs.Ythmknlflgajnpaa
open Go.RowKit
def RS0 (base most : Int) : RS := ⟨base, most, 0, [], [], [], [], []⟩
def RV0 : RV := fun _ => .slice none 0 0
theorem r0_len (b m : Int) (i : Fin 5) : (RS0 b m).n i ≤ 900000 := by
  match i with | 0 => exact Nat.zero_le _ | 1 => exact Nat.zero_le _ | 2 => exact Nat.zero_le _ | 3 => exact Nat.zero_le _ | 4 => exact Nat.zero_le _
theorem r0_new (b m : Int) (w : World) : RInv w.heap.size w.heap.size (RS0 b m) RV0 (w.alloc (.cells #[.int .i64 b, .int .i64 m, .int .i64 0, .slice none 0 0, .slice none 0 0, .slice none 0 0, .slice none 0 0, .slice none 0 0] 50)) :=
  ⟨G.heap_new _ _, Nat.le_refl _, fun i => by match i with | 0 => exact G.owns_nil _ _ _ _ | 1 => exact G.owns_nil _ _ _ _ | 2 => exact G.owns_nil _ _ _ _ | 3 => exact G.owns_nil _ _ _ _ | 4 => exact G.owns_nil _ _ _ _, fun i j _ b hb => by simp [RV0, Value.ownBlock] at hb⟩
set_option maxRecDepth 100000 in
set_option maxHeartbeats 4000000 in
theorem does_nil (B rb : Nat) (x : Act7) (w : World) (h : RInv B rb (RS0 1 1) RV0 w) :
    Calls Try.prog 22 #[.pointer none, .pointer (some ⟨rb, 0, none⟩), .agg #[.int .i64 x.kind, .int .i64 x.ref.kind, .string x.ref.name, .int .i64 x.n]] w fun e w' => (∃ b, e = .returned (.bool b)) ∧ Below B w w' := by
  obtain ⟨W, hW⟩ : ∃ W, W = w.alloc (actBox x) := ⟨_, rfl⟩
  have hbW : Below w.heap.size w W := by rw [hW]; exact bel_alloc _ _
  have hB : B ≤ w.heap.size := Nat.le_trans h.hB (Nat.le_of_lt h.lt)
  have A0 : RAt rb RV0 W w.heap.size (actBox x) := by rw [hW]; exact RAt.new h _
  have R0 := (RRun.start h).below hbW
  have cells : ∀ (V : World), V.heap[w.heap.size]? = some (actBox x) → V.cell? ⟨w.heap.size, 0, none⟩ = some (.int .i64 x.kind) ∧ V.cell? ⟨w.heap.size, 1, none⟩ = some (.int .i64 x.ref.kind) ∧ V.cell? ⟨w.heap.size, 2, none⟩ = some (.string x.ref.name) ∧ V.cell? ⟨w.heap.size, 3, none⟩ = some (.int .i64 x.n) := fun V hV => by
    refine ⟨?_, ?_, ?_, ?_⟩ <;> simp [World.cell?, hV]
  obtain ⟨b0, b1, b2, b3⟩ := cells _ A0.is
  have HR := Lib.hid R0
  have HA := Lib.hid A0
  have HW := Lib.hid hW
  have HI := Lib.hid h
  have HB := Lib.hid hB
  have HC := Lib.hid cells
  have fin : ∀ (s' : RS) (V W' : World), Below W.heap.size W V → RStep B rb RV0 V s' W' → Below B w W' := fun s' V W' hV hs => by
    obtain ⟨v', r', _⟩ := (HR.out.below hV).step hs
    exact RStep.below HI.out (Below.refl _ _) r'.done
  have HF := Lib.hid fin
  have Hl := Lib.hid (r0_len 1 1)
  rw [hW] at b0 b1 b2 b3
  clear hW hbW hB A0 R0 h cells fin
  by_cases k1 : x.kind = 1
  · have k1' : (x.kind == 1) = true := by simpa using k1
    clear k1
    go_enter Try.func22, Try.ntmps22
    go_wp2_with (fail)
    rw [← HW.out]
    refine (add_nil x.ref _).mono ?_
    rintro e w1 ⟨rfl, hb1⟩
    have HB1 := Lib.hid hb1
    obtain ⟨c0, c1, c2, c3⟩ := HC.out _ ((HA.out.below hb1).is)
    clear hb1 b0 b1 b2 b3
    go_wp2_with (fail)
    refine (radd_any B rb _ _ x.ref _ (HR.out.below HB1.out).inv (fun i => Nat.le_trans (Hl.out i) (by decide))).mono ?_
    rintro e w2 ⟨rfl, hs⟩
    have HS := Lib.hid (HF.out _ _ _ HB1.out hs)
    clear hs
    go_wp2
    go_ret
    exact ⟨⟨_, rfl⟩, HS.out⟩
  · have k1' : (x.kind == 1) = false := by simpa using k1
    clear k1
    by_cases k2 : x.kind = 2
    · have k2' : (x.kind == 2) = true := by simpa using k2
      clear k2
      go_enter Try.func22, Try.ntmps22
      go_wp2_with (fail)
      rw [← HW.out]
      refine (after_nil x.ref x.n _).mono ?_
      rintro e w1 ⟨rfl, hb1⟩
      have HB1 := Lib.hid hb1
      obtain ⟨c0, c1, c2, c3⟩ := HC.out _ ((HA.out.below hb1).is)
      clear hb1 b0 b1 b2 b3
      go_wp2_with (fail)
      refine (rafter_any B rb _ _ x.ref x.n _ (HR.out.below HB1.out).inv (fun i => Nat.le_trans (Hl.out i) (by decide)) ⟨Int.le_refl _, by decide⟩).mono ?_
      rintro e w2 ⟨rfl, hs⟩
      have HS := Lib.hid (HF.out _ _ _ HB1.out hs)
      clear hs
      go_wp2
      go_ret
      exact ⟨⟨_, rfl⟩, HS.out⟩
    · have k2' : (x.kind == 2) = false := by simpa using k2
      clear k2
      by_cases k3 : x.kind = 3
      · have k3' : (x.kind == 3) = true := by simpa using k3
        clear k3
        go_enter Try.func22, Try.ntmps22
        go_wp2_with (fail)
        rw [← HW.out]
        refine (again_nil x.ref _).mono ?_
        rintro e w1 ⟨rfl, hb1⟩
        have HB1 := Lib.hid hb1
        obtain ⟨c0, c1, c2, c3⟩ := HC.out _ ((HA.out.below hb1).is)
        clear hb1 b0 b1 b2 b3
        go_wp2_with (fail)
        refine (ragain_any B rb _ _ x.ref _ (HR.out.below HB1.out).inv Hl.out ⟨Int.le_refl _, by decide⟩ ⟨by decide, by decide⟩ ⟨Int.le_refl _, show (0 : Int) ≤ 1000000 by decide⟩).mono ?_
        rintro e w2 ⟨rfl, hs⟩
        have HS := Lib.hid (HF.out _ _ _ HB1.out hs)
        clear hs
        go_wp2
        go_ret
        exact ⟨⟨_, rfl⟩, HS.out⟩
      · have k3' : (x.kind == 3) = false := by simpa using k3
        clear k3
        by_cases k4 : x.kind = 4
        · have k4' : (x.kind == 4) = true := by simpa using k4
          clear k4
          go_enter Try.func22, Try.ntmps22
          go_wp2_with (fail)
          rw [← HW.out]
          refine (forget_nil x.ref _).mono ?_
          rintro e w1 ⟨rfl, hb1⟩
          have HB1 := Lib.hid hb1
          obtain ⟨c0, c1, c2, c3⟩ := HC.out _ ((HA.out.below hb1).is)
          clear hb1 b0 b1 b2 b3
          go_wp2_with (fail)
          refine (rforget_any B rb _ _ x.ref _ (HR.out.below HB1.out).inv (fun i => Nat.le_trans (Hl.out i) (by decide))).mono ?_
          rintro e w2 ⟨rfl, hs⟩
          have HS := Lib.hid (HF.out _ _ _ HB1.out hs)
          clear hs
          go_wp2
          go_ret
          exact ⟨⟨_, rfl⟩, HS.out⟩
        · have k4' : (x.kind == 4) = false := by simpa using k4
          clear k4
          by_cases k5 : x.kind = 5
          · have k5' : (x.kind == 5) = true := by simpa using k5
            clear k5
            go_enter Try.func22, Try.ntmps22
            go_wp2_with (fail)
            rw [← HW.out]
            refine (get_nil _).mono ?_
            rintro e w1 ⟨rfl, hb1⟩
            have HB1 := Lib.hid (G.bthen hb1 (bel_alloc w1 (.cells #[.int .i64 0, .string ⟨#[]⟩] 30)))
            have X1 := Lib.hid (RAt.new (HR.out.below hb1).inv (refBox ⟨0, ⟨#[]⟩⟩))
            have x1 := X1.out.k
            have x2 := X1.out.nm
            clear hb1 b0 b1 b2 b3
            go_wp2_with (fail)
            refine (rget_empty B rb _ _ _ (HR.out.below HB1.out).inv rfl).mono ?_
            rintro e w2 ⟨rfl, hs⟩
            have HS := Lib.hid (HF.out _ _ _ HB1.out hs)
            obtain ⟨v2, r2, t2⟩ := (HR.out.below HB1.out).step hs
            have X2 := Lib.hid (t2 _ _ X1.out)
            have x3 := X2.out.k
            have x4 := X2.out.nm
            have l2 := X2.out.lt
            clear hs r2 t2 x1 x2
            go_wp2
            go_ret
            exact ⟨⟨_, rfl⟩, G.bthen' HS.out (by have h1 := HB.out; have h2 := HB1.out.size; have h3 := (HR.out.fr).size; have := HS.out.size; omega) (bel_alloc _ _)⟩
          · have k5' : (x.kind == 5) = false := by simpa using k5
            clear k5
            by_cases k6 : x.kind = 6
            · have k6' : (x.kind == 6) = true := by simpa using k6
              clear k6
              go_enter Try.func22, Try.ntmps22
              go_wp2_with (fail)
              rw [← HW.out]
              refine (done_nil x.ref _).mono ?_
              rintro e w1 ⟨rfl, hb1⟩
              have HB1 := Lib.hid hb1
              obtain ⟨c0, c1, c2, c3⟩ := HC.out _ ((HA.out.below hb1).is)
              clear hb1 b0 b1 b2 b3
              go_wp2_with (fail)
              refine (rdone_any B rb _ _ x.ref _ (HR.out.below HB1.out).inv (fun i => Nat.le_trans (Hl.out i) (by decide))).mono ?_
              rintro e w2 ⟨rfl, hs⟩
              have HS := Lib.hid (HF.out _ _ _ HB1.out hs)
              clear hs
              go_wp2
              go_ret
              exact ⟨⟨_, rfl⟩, HS.out⟩
            · have k6' : (x.kind == 6) = false := by simpa using k6
              clear k6
              by_cases k7 : x.kind = 7
              · have k7' : (x.kind == 7) = true := by simpa using k7
                clear k7
                go_enter Try.func22, Try.ntmps22
                go_wp2_with (fail)
                rw [← HW.out]
                refine (tick_nil x.n _).mono ?_
                rintro e w1 ⟨rfl, hb1⟩
                have HB1 := Lib.hid hb1
                obtain ⟨c0, c1, c2, c3⟩ := HC.out _ ((HA.out.below hb1).is)
                clear hb1 b0 b1 b2 b3
                go_wp2_with (fail)
                refine (rtick_empty B rb _ _ x.n _ (HR.out.below HB1.out).inv ⟨Int.le_refl _, by decide⟩ rfl).mono ?_
                rintro e w2 ⟨rfl, hs⟩
                have HS := Lib.hid (HF.out _ _ _ HB1.out hs)
                clear hs
                go_wp2
                go_ret
                exact ⟨⟨_, rfl⟩, HS.out⟩
              · have k7' : (x.kind == 7) = false := by simpa using k7
                clear k7
                go_enter Try.func22, Try.ntmps22
                go_wp2
                go_ret
                refine ⟨⟨_, rfl⟩, ?_⟩
                rw [← HW.out]
                exact HF.out _ W _ (Below.refl _ _) (RStep.of HR.out.inv (Fr.refl _ _))
end Go.Proofs.Ythmknlflgajnpaa
