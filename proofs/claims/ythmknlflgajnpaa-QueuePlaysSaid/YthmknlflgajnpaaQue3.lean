/- The walks of the queue: Done. -/
import Derived.Test.YthmknlflgajnpaaQue2
namespace Go.Proofs.Ythmknlflgajnpaa
open Go.RowKit
/-- delete as a step of a region that draws, its run known -/
theorem step_delete_run {P : Program} {ops : Array Oper} {o : Oper} {a : Act} {w : World} {K : Act → World → Prop} {Q : Exit → Act → World → Prop} {E : Prop}
    (hg : o.guard = none) (s x : Operand) (t u : TypeId) (hop : o.op = Op.call { callee := Callee.builtin Builtin.delete, args := #[s, x], argTypes := #[t, u] }) {v v2 v1 : Value} {w1 : World}
    (hs : a.eval s = v) (hx : a.eval x = v2) (hrun : (Builtin.delete_ #[t, u] o.type #[v, v2]).run P w = .ok v1 w1) (hK : K (a.put o.dst v1) w1) :
    if Region.wanted o (yielded ops a.tmps) = true then Oper.wp P o a w K Q else E := by
  have hw : Region.wanted o (yielded ops a.tmps) = true := by simp [Region.wanted, hg]
  rw [if_pos hw]
  unfold Oper.wp
  simp [execOp, hop, resolve, invoke, builtin, hs, hx, hrun, Result.andThen]
  exact hK
def doneS (s : St) (r : Ref) : St :=
  if num (s.mp 1) r = 0 then s
  else if 0 < num (s.mp 0) r then { s with line := s.line ++ [r], mp := fun j => if j = 1 then M.del (s.mp 1) r else s.mp j }
  else { s with mp := fun j => if j = 1 then M.del (s.mp 1) r else s.mp j }
set_option maxRecDepth 100000 in
set_option maxHeartbeats 2000000 in
theorem done_any (B qb : Nat) (s : St) (d : QD) (r : Ref) (w : World) (h : Inv B qb s d w) (hl : s.line.length ≤ 1000000) :
    Calls Try.prog 14 #[.pointer (some ⟨qb, 0, none⟩), rv r] w fun e w' => e = .returned (.tuple #[]) ∧ Step B qb d w (doneS s r) w' := by
  obtain ⟨k, nm⟩ := r
  have hx : w.heap.size ≠ qb := fun e => by have := h.lt; omega
  obtain ⟨W, hW⟩ : ∃ W, W = w.alloc (.cells #[.int .i64 k, .string nm] 30) := ⟨_, rfl⟩
  have hbW : Below w.heap.size w W := by rw [hW]; exact (Below.refl _ _).alloc (Nat.le_refl _) _
  have hI := h.below hbW
  have c4 := hI.cell 4
  have c5 := hI.cell 5
  have c3 := hI.cell 3
  have look1 := look (hI.maps 1) k nm
  have hqb : qb < w.heap.size := h.lt
  unfold rv
  simp only [qcells, List.getElem?_toArray, List.getElem?_cons_succ, List.getElem?_cons_zero] at c3 c4 c5
  rw [hW] at look1 c3 c4 c5
  by_cases hm : num (s.mp 1) ⟨k, nm⟩ = 0
  · have hm' : ((num (s.mp 1) ⟨k, nm⟩ : Int) == 0) = true := by simpa using hm
    have ha : doneS s ⟨k, nm⟩ = s := if_pos hm
    have Ha := Lib.hid ha
    have HI := Lib.hid hI
    have HW := Lib.hid hW
    have Hb := Lib.hid hbW
    clear ha hI hW h hl hx hbW
    go_enter Try.func14, Try.ntmps14
    go_wp2
    go_quiet (fail)
    go_wp2
    refine bodyPost_ret (results_none rfl _ _ _) rfl ?_
    refine ⟨rfl, ?_⟩
    rw [Ha.out, ← HW.out]
    exact Step.of (HI.out.keep fun _ _ => rfl) (Fr.of_below (G.bdrewN Hb.out _))
  · have hm' : ((num (s.mp 1) ⟨k, nm⟩ : Int) == 0) = false := by simpa using hm
    obtain ⟨o, ho1, ho2⟩ := mdel hI 0 1 k nm
    rw [hW] at ho1
    have hm0 : d.m 1 ≠ w.heap.size := Nat.ne_of_lt (h.foot_lt (.inr (.inl ⟨1, rfl⟩)))
    have hbox : ∀ n, (M.upd (W.drewN n) (d.m 1) o).heap[w.heap.size]? = some (.cells #[.int .i64 k, .string nm] 30 (0, 0)) := fun n => by
      rw [M.upd_other _ _ _ _ hm0.symm, hW]; exact G.heap_new _ _
    have hf2 : ∀ n, Fr (Foot qb d) w (M.upd (W.drewN n) (d.m 1) o) := fun n => (Fr.of_below hbW).trans (fr_upd W n (d.m 1) o (.inr (.inl ⟨1, rfl⟩))) (fun _ hj => .inl hj)
    have Ho2 := Lib.hid ho2
    have Hf2 := Lib.hid hf2
    have Hbox := Lib.hid hbox
    have HI := Lib.hid hI
    have HW := Lib.hid hW
    have Hm := Lib.hid hm
    have Hl := Lib.hid hl
    clear hI hW h hl hx hbW ho2 hf2 hbox hm0 hm
    go_enter Try.func14, Try.ntmps14
    go_wp2
    go_quiet (fail)
    go_wp2
    have m0 := ho1 (nq + 1)
    have M0 := Lib.hid m0
    clear m0 ho1
    go_region_law (refine step_delete_run rfl (.tmp 18) (.tmp 19) 56 30 rfl rfl rfl M0.out ?_)
    all_goals
      go_wp2
      obtain ⟨w2, hw2⟩ : ∃ w2, w2 = M.upd ((w.alloc (.cells #[.int .i64 k, .string nm] 30)).drewN (nq + 1)) (d.m 1) o := ⟨_, rfl⟩
      have hI2 := Ho2.out (nq + 1)
      have hF2 := Hf2.out (nq + 1)
      have hB2 := Hbox.out (nq + 1)
      rw [HW.out, ← hw2] at hI2 hF2 hB2
      rw [← hw2]
      have hn : (if (0 : Fin 4) = 1 then M.del (s.mp 1) ⟨k, nm⟩ else s.mp 0) = s.mp 0 := rfl
      have look2 := look (hI2.maps 0) k nm
      simp only [hn] at look2
      have e5 := hI2.cell 4
      have e3 := hI2.cell 3
      simp only [qcells, List.getElem?_toArray, List.getElem?_cons_succ, List.getElem?_cons_zero] at e5 e3
      have e30 : w2.cell? ⟨w.heap.size, 0, none⟩ = some (.int .i64 k) := by simp [World.cell?, hB2]
      have e31 : w2.cell? ⟨w.heap.size, 1, none⟩ = some (.string nm) := by simp [World.cell?, hB2]
      have hlt := hI2.lt
      by_cases hb : 0 < num (s.mp 0) ⟨k, nm⟩
      · have hb' : decide (0 < num (s.mp 0) ⟨k, nm⟩) = true := decide_eq_true hb
        have ha : doneS s ⟨k, nm⟩ = { s with line := s.line ++ [⟨k, nm⟩], mp := fun j => if j = 1 then M.del (s.mp 1) ⟨k, nm⟩ else s.mp j } := by
          unfold doneS; rw [if_neg Hm.out, if_pos hb]
        have Ha := Lib.hid ha
        have HF := Lib.hid hF2
        have HI2 := Lib.hid hI2
        clear ha hb hI2 hF2 hB2 hw2 Ho2 Hf2 Hbox
        go_quiet (fail)
        go_wp2
        generalize hw3 : w2.drewN nq = w3
        have hI3 := HI2.out.keep (w1 := w2.drewN nq) (fun _ _ => rfl)
        rw [hw3] at hI3
        have hF3 : Fr (Foot qb d) w w3 := by rw [← hw3]; exact HF.out.trans (Fr.of_below (G.bdrewN (Below.refl _ _) _)) (fun _ hj => .inl hj)
        have f30 : w3.cell? ⟨w.heap.size, 0, none⟩ = some (.int .i64 k) := by rw [← hw3]; exact e30
        have f31 : w3.cell? ⟨w.heap.size, 1, none⟩ = some (.string nm) := by rw [← hw3]; exact e31
        have hlt3 := hI3.lt
        have hbx3 : w.heap.size < w3.heap.size := World.block_lt_of_cell? w3 _ f30
        have f3 := hI3.cell 3
        simp only [qcells, List.getElem?_toArray, List.getElem?_cons_succ, List.getElem?_cons_zero] at f3
        obtain ⟨fg, fc, fw, l1, l2, l3, l4⟩ := mline hI3 ⟨k, nm⟩ Hl.out 28
        have m1 : (Builtin.append_ #[28, 28] 28 #[d.lv, .slice (some ⟨w3.heap.size, 0, none⟩) 1 1]).run Try.prog (w3.alloc (.cells #[.int .i64 k, .string nm] 30)).drew = .ok (.slice (some ⟨fg 1, 0, none⟩) (s.line.length + 1) (fc 1)) (fw 1) := l1 1
        have M1 := Lib.hid m1
        have n2 := l2 1
        have n3 := l3 1
        clear l1 l2 l3 m1
        have H4 := Lib.hid l4
        have HF3 := Lib.hid hF3
        clear l4 hI3 hF3 hw3 e3 e30 e31 e5 hlt look2 look1 c3 c4 c5
        go_region_law (refine step_append_run rfl (.tmp 31) (.tmp 33) 28 rfl rfl rfl M1.out ?_)
        all_goals go_wp2
        all_goals refine bodyPost_end (results_none rfl _ _ _) rfl ⟨rfl, ?_⟩
        all_goals rw [Ha.out]; exact Step.from' HF3.out (H4.out _)
      · have hb' : decide (0 < num (s.mp 0) ⟨k, nm⟩) = false := decide_eq_false hb
        have ha : doneS s ⟨k, nm⟩ = { s with mp := fun j => if j = 1 then M.del (s.mp 1) ⟨k, nm⟩ else s.mp j } := by
          unfold doneS; rw [if_neg Hm.out, if_neg hb]
        have Ha := Lib.hid ha
        have HI2 := Lib.hid hI2
        have HF := Lib.hid hF2
        clear ha hb hI2 hF2 hB2 hw2 Ho2 Hf2 Hbox
        go_quiet (fail)
        go_wp2
        refine bodyPost_end (results_none rfl _ _ _) rfl ?_
        refine ⟨rfl, ?_⟩
        rw [Ha.out]
        exact Step.of (HI2.out.keep fun _ _ => rfl) ⟨HF.out.os, HF.out.tape, HF.out.output, HF.out.size, HF.out.block⟩
end Go.Proofs.Ythmknlflgajnpaa
