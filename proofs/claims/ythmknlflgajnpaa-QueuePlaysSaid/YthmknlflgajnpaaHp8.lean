/- The queue's After: an item is put on the pile, unless one that is due not later is there. -/
import Derived.Test.YthmknlflgajnpaaHp7
import Derived.Test.YthmknlflgajnpaaRef8
import Derived.StillTailTactics
namespace Go.Proofs.Ythmknlflgajnpaa
set_option linter.unusedVariables false
set_option linter.unusedSimpArgs false
open Go.RowKit
/-- a lookup that tells whether it is there -/
theorem lookT {w : World} {m : Nat} {l : NM} (h : M.MapIs rv w m (mi l)) (k : Int) (nm : ByteArray) {u : Int} {b : Bool} (hu : u = num l ⟨k, nm⟩) (hb : b = (M.get l ⟨k, nm⟩).isSome) :
    ∀ n, (Instr.lookup 56 (.map (some m)) (.agg #[.int .i64 k, .string nm]) true).run Try.prog (w.drewN n) = .ok (.tuple #[.int .i64 u, .bool b]) (w.drewN n) := fun n => by
  have := M.lookup_run ref_law Try.underlying56 zero3 true ⟨k, nm⟩ (w := w.drewN n) (r := m) (l := mi l) h
  rw [mi_num, mi_get, Option.isSome_map, ← hu, ← hb] at this
  exact this
theorem stay_iff (l : NM) (r : Ref) (D u : Int) (b : Bool) (hu : u = num l r) (hb : b = (M.get l r).isSome) : (b = false ∨ (b = true ∧ D < u) → (match M.get l r with | some o => decide (o ≤ D) | none => false) = false) ∧ (b = true ∧ u ≤ D → (match M.get l r with | some o => decide (o ≤ D) | none => false) = true) := by
  subst hu hb
  unfold num
  cases M.get l r with
  | none => simp
  | some o => simp
def stay (s : St) (r : Ref) (D : Int) : Bool := match M.get (s.mp 2) r with | some o => decide (o ≤ D) | none => false
def laterS (s : St) (r : Ref) (D : Int) : St := { s with mp := fun j => if j = 2 then M.put (s.mp 2) r D else s.mp j, pile := upL (s.pile ++ [⟨D, r⟩]) s.pile.length }
def afterS (s : St) (r : Ref) (m : Int) : St := if m < 1 then addS s r else if stay s r (s.now + clampS m) then s else laterS s r (s.now + clampS m)
set_option maxRecDepth 100000 in
set_option maxHeartbeats 4000000 in
theorem after_any (B qb : Nat) (s : St) (d : QD) (r : Ref) (m : Int) (w : World) (h : Inv B qb s d w) (hl : s.line.length ≤ 1000000) (hp : s.pile.length ≤ 100000) (hnow : 0 ≤ s.now ∧ s.now ≤ 1099511627776) :
    Calls Try.prog 28 #[.pointer (some ⟨qb, 0, none⟩), rv r, .int .i64 m] w fun e w' => e = .returned (.tuple #[]) ∧ Step B qb d w (afterS s r m) w' := by
  obtain ⟨k, nm⟩ := r
  have hx : w.heap.size ≠ qb := fun e => by have := h.lt; omega
  obtain ⟨W, hW⟩ : ∃ W, W = w.alloc (.cells #[.int .i64 k, .string nm] 30) := ⟨_, rfl⟩
  have hbW : Below w.heap.size w W := by rw [hW]; exact (Below.refl _ _).alloc (Nat.le_refl _) _
  have hI := h.below hbW
  by_cases hm : m < 1
  · have hm' : decide (m < 1) = true := decide_eq_true hm
    have Ha := Lib.hid (show afterS s ⟨k, nm⟩ m = addS s ⟨k, nm⟩ from if_pos hm)
    have HI := Lib.hid hI
    have HW := Lib.hid hW
    have Hb := Lib.hid hbW
    have Hl := Lib.hid hl
    unfold rv
    clear hI hW h hl hx hbW hnow hm hp
    go_enter Try.func28, Try.ntmps28
    go_wp2_with (fail)
    rw [← HW.out]
    refine (add_any B qb s d ⟨k, nm⟩ _ HI.out Hl.out).mono ?_
    rintro e w9 ⟨rfl, hs⟩
    have HS := Lib.hid hs
    clear hs
    go_wp2
    refine bodyPost_ret (results_none rfl _ _ _) rfl ⟨rfl, ?_⟩
    rw [Ha.out]
    exact Step.from' (Fr.of_below Hb.out) HS.out
  · have hm' : decide (m < 1) = false := decide_eq_false hm
    obtain ⟨D, hD⟩ : ∃ D, D = s.now + clampS m := ⟨_, rfl⟩
    have hN : clampS m = min m 1048576 := by unfold clampS; split <;> omega
    have haf : afterS s ⟨k, nm⟩ m = if stay s ⟨k, nm⟩ D then s else laterS s ⟨k, nm⟩ D := by rw [hD]; exact if_neg hm
    rw [hN] at hD
    have hw : wrap64 (s.now + min m 1048576) = D := by unfold wrap64; omega
    have c2 := hI.cell 2
    have c6 := hI.cell 6
    obtain ⟨u, hu⟩ : ∃ u, u = num (s.mp 2) ⟨k, nm⟩ := ⟨_, rfl⟩
    obtain ⟨b, hb⟩ : ∃ b, b = (M.get (s.mp 2) ⟨k, nm⟩).isSome := ⟨_, rfl⟩
    have look2 := lookT (hI.maps 2) k nm hu hb
    obtain ⟨st1, st2⟩ := stay_iff (s.mp 2) ⟨k, nm⟩ D u b hu hb
    have St1 := Lib.hid st1
    have St2 := Lib.hid st2
    simp only [qcells, List.getElem?_toArray, List.getElem?_cons_succ, List.getElem?_cons_zero] at c2 c6
    obtain ⟨o, ho1, ho2⟩ := mput hI 2 k nm D
    have hm2 : d.m 2 ≠ w.heap.size := Nat.ne_of_lt (h.foot_lt (.inr (.inl ⟨2, rfl⟩)))
    have hbox : ∀ n, (M.upd (W.drewN n) (d.m 2) o).heap[w.heap.size]? = some (.cells #[.int .i64 k, .string nm] 30 (0, 0)) := fun n => by
      rw [M.upd_other _ _ _ _ hm2.symm, hW]; exact G.heap_new _ _
    have hf2 : ∀ n, Fr (Foot qb d) w (M.upd (W.drewN n) (d.m 2) o) := fun n => (Fr.of_below hbW).trans (fr_upd W n (d.m 2) o (.inr (.inl ⟨2, rfl⟩))) (fun _ hj => .inl hj)
    have Ho2 := Lib.hid ho2
    have Hf2 := Lib.hid hf2
    have Hbox := Lib.hid hbox
    have Ha := Lib.hid haf
    have HI := Lib.hid hI
    have HW := Lib.hid hW
    have Hb := Lib.hid hbW
    have Hl := Lib.hid hp
    have hqb : qb < w.heap.size := h.lt
    have c : (b = false ∨ (b = true ∧ D < u)) ∨ (b = true ∧ u ≤ D) := by cases b <;> simp <;> omega
    rw [hW] at look2 ho1 c2 c6
    unfold rv
    clear hW hbW hI h hl hp hN hD hnow hm hx hu hb st1 st2 ho2 hf2 hbox haf hm2
    rcases c with (rfl | ⟨rfl, hu⟩) | ⟨rfl, hu⟩
    · go_enter Try.func28, Try.ntmps28
      go_wp2
      go_quiet (fail)
      go_wp2
      go_region
      go_wp2
      obtain ⟨w2, hw2⟩ : ∃ w2, w2 = M.upd ((w.alloc (.cells #[.int .i64 k, .string nm] 30)).drewN (nq + 1)) (d.m 2) o := ⟨_, rfl⟩
      have hI2 := Ho2.out (nq + 1)
      have hF2 := Hf2.out (nq + 1)
      have hB2 := Hbox.out (nq + 1)
      rw [HW.out, ← hw2] at hI2 hF2 hB2
      rw [← hw2]
      have e30 : w2.cell? ⟨w.heap.size, 0, none⟩ = some (.int .i64 k) := by simp [World.cell?, hB2]
      have e31 : w2.cell? ⟨w.heap.size, 1, none⟩ = some (.string nm) := by simp [World.cell?, hB2]
      have HI2 := Lib.hid hI2
      have HF2 := Lib.hid hF2
      clear hI2 hF2 hB2 hw2 Ho2 Hf2 Hbox look2 ho1 c2 c6
      go_still_tail 8, (by kernel_rfl)
      change wpList _ _ _ _ _ w2.drew
      have HI3 := Lib.hid (HI2.out.keep (w1 := w2.drew) (fun _ _ => rfl))
      have HF3 := Lib.hid (HF2.out.trans (Fr.of_below (G.bdrewN (Below.refl _ _) 1)) (fun _ hj => .inl hj))
      have C := Lib.hid (hpush_any B qb _ d ⟨D, ⟨k, nm⟩⟩ w2.drew HI3.out Hl.out)
      go_wp2_with (go_at_call 37; refine C.out.mono ?_; rintro e w9 ⟨rfl, hs⟩)
      refine bodyPost_end (results_none rfl _ _ _) rfl ⟨rfl, ?_⟩
      rw [Ha.out, show stay s ⟨k, nm⟩ D = false from St1.out (.inl trivial), if_neg Bool.false_ne_true]
      exact Step.from' HF3.out hs
    · have q2 : decide (u ≤ D) = false := decide_eq_false (by omega)
      clear hu
      go_enter Try.func28, Try.ntmps28
      go_wp2
      go_quiet (fail)
      go_wp2
      go_region
      go_wp2
      obtain ⟨w2, hw2⟩ : ∃ w2, w2 = M.upd ((w.alloc (.cells #[.int .i64 k, .string nm] 30)).drewN (nq + 1)) (d.m 2) o := ⟨_, rfl⟩
      have hI2 := Ho2.out (nq + 1)
      have hF2 := Hf2.out (nq + 1)
      have hB2 := Hbox.out (nq + 1)
      rw [HW.out, ← hw2] at hI2 hF2 hB2
      rw [← hw2]
      have e30 : w2.cell? ⟨w.heap.size, 0, none⟩ = some (.int .i64 k) := by simp [World.cell?, hB2]
      have e31 : w2.cell? ⟨w.heap.size, 1, none⟩ = some (.string nm) := by simp [World.cell?, hB2]
      have HI2 := Lib.hid hI2
      have HF2 := Lib.hid hF2
      clear hI2 hF2 hB2 hw2 Ho2 Hf2 Hbox look2 ho1 c2 c6
      go_still_tail 8, (by kernel_rfl)
      change wpList _ _ _ _ _ w2.drew
      have HI3 := Lib.hid (HI2.out.keep (w1 := w2.drew) (fun _ _ => rfl))
      have HF3 := Lib.hid (HF2.out.trans (Fr.of_below (G.bdrewN (Below.refl _ _) 1)) (fun _ hj => .inl hj))
      have C := Lib.hid (hpush_any B qb _ d ⟨D, ⟨k, nm⟩⟩ w2.drew HI3.out Hl.out)
      go_wp2_with (go_at_call 37; refine C.out.mono ?_; rintro e w9 ⟨rfl, hs⟩)
      refine bodyPost_end (results_none rfl _ _ _) rfl ⟨rfl, ?_⟩
      rw [Ha.out, show stay s ⟨k, nm⟩ D = false from St1.out (.inr ⟨trivial, by have := of_decide_eq_false q2; omega⟩), if_neg Bool.false_ne_true]
      exact Step.from' HF3.out hs
    · have q2 : decide (u ≤ D) = true := decide_eq_true hu
      clear hu
      go_enter Try.func28, Try.ntmps28
      go_wp2
      go_quiet (fail)
      go_wp2
      refine bodyPost_ret (results_none rfl _ _ _) rfl ⟨rfl, ?_⟩
      rw [Ha.out, show stay s ⟨k, nm⟩ D = true from St2.out ⟨trivial, of_decide_eq_true q2⟩, if_pos rfl]
      rw [← HW.out]
      exact Step.of (HI.out.keep fun _ _ => rfl) (Fr.of_below (G.bdrewN Hb.out _))
end Go.Proofs.Ythmknlflgajnpaa
