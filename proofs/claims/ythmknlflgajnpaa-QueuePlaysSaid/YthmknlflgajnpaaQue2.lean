/- The walks of the queue: Add. -/
import Derived.Test.YthmknlflgajnpaaQue
import Derived.Deep.RegionLaw
namespace Go.Proofs.Ythmknlflgajnpaa
open Go.RowKit
theorem Inv.cell {B qb : Nat} {s : St} {d : QD} {w : World} (h : Inv B qb s d w) (i : Nat) : w.cell? ⟨qb, i, none⟩ = (qcells s d)[i]? := by simp [World.cell?, h.cells]
theorem Inv.free {B qb : Nat} {s : St} {d : QD} {w : World} (h : Inv B qb s d w) (i : Nat) : w.frozen? ⟨qb, i, none⟩ = false := by simp [World.frozen?, h.cells]
theorem Inv.lt {B qb : Nat} {s : St} {d : QD} {w : World} (h : Inv B qb s d w) : qb < w.heap.size := h.foot_lt (.inl rfl)
/-- what a lookup of a map of numbers answers, however often the order was drawn -/
theorem look {w : World} {m : Nat} {l : NM} (h : M.MapIs rv w m (mi l)) (k : Int) (nm : ByteArray) : ∀ n, (Instr.lookup 56 (.map (some m)) (.agg #[.int .i64 k, .string nm]) false).run Try.prog (w.drewN n) = .ok (.int .i64 (num l ⟨k, nm⟩)) (w.drewN n) := fun n => by
  have := M.lookup_run ref_law Try.underlying56 zero3 false ⟨k, nm⟩ (w := w.drewN n) (r := m) (l := mi l) h
  rw [mi_num] at this
  exact this
theorem look0 {w : World} {m : Nat} {l : NM} (h : M.MapIs rv w m (mi l)) (k : Int) (nm : ByteArray) : (Instr.lookup 56 (.map (some m)) (.agg #[.int .i64 k, .string nm]) false).run Try.prog w = .ok (.int .i64 (num l ⟨k, nm⟩)) w := look h k nm 0
/-- what a store into a map of the queue leaves -/
theorem mput {B qb : Nat} {s : St} {d : QD} {w : World} (h : Inv B qb s d w) (i : Fin 4) (k : Int) (nm : ByteArray) (v : Int) :
    ∃ o, (∀ n, (Instr.mapUpdate 56 (.map (some (d.m i))) (.agg #[.int .i64 k, .string nm]) (.int .i64 v)).run Try.prog (w.drewN n) = .ok () (M.upd (w.drewN n) (d.m i) o)) ∧
      ∀ n, Inv B qb { s with mp := fun j => if j = i then M.put (s.mp i) ⟨k, nm⟩ v else s.mp j } d (M.upd (w.drewN n) (d.m i) o) := by
  obtain ⟨o, ho⟩ := M.update_run ref_law Try.underlying56 ⟨k, nm⟩ (.int .i64 v) (h.maps i)
  refine ⟨o, fun n => (ho (w.drewN n) rfl).1, fun n => ?_⟩
  have hd : Inv B qb s d (w.drewN n) := h.keep fun _ _ => rfl
  exact hd.map i _ (fun j hj => M.upd_other _ _ _ j hj) (by rw [← mi_put]; exact (ho (w.drewN n) rfl).2)
theorem mdel {B qb : Nat} {s : St} {d : QD} {w : World} (h : Inv B qb s d w) (T : TypeId) (i : Fin 4) (k : Int) (nm : ByteArray) :
    ∃ o, (∀ n, (Builtin.delete_ #[56, 30] T #[.map (some (d.m i)), .agg #[.int .i64 k, .string nm]]).run Try.prog (w.drewN n) = .ok (.tuple #[]) (M.upd (w.drewN n) (d.m i) o)) ∧
      ∀ n, Inv B qb { s with mp := fun j => if j = i then M.del (s.mp i) ⟨k, nm⟩ else s.mp j } d (M.upd (w.drewN n) (d.m i) o) := by
  obtain ⟨o, ho⟩ := M.delete_run ref_law Try.underlying56 T ⟨k, nm⟩ (h.maps i)
  refine ⟨o, fun n => (ho (w.drewN n) rfl).1, fun n => ?_⟩
  have hd : Inv B qb s d (w.drewN n) := h.keep fun _ _ => rfl
  exact hd.map i _ (fun j hj => M.upd_other _ _ _ j hj) (by rw [← mi_del]; exact (ho (w.drewN n) rfl).2)
theorem fr_upd {F : Nat → Prop} (w : World) (n r : Nat) (o : Obj) (h : F r) : Fr F w (M.upd (w.drewN n) r o) :=
  ⟨rfl, rfl, rfl, by rw [M.upd_size]; exact Nat.le_refl _, fun j _ hj => M.upd_other _ _ _ j (fun e => hj (e ▸ h))⟩
theorem info30 : (Try.prog.info? 30).map (fun i => (i.zero, i.size, i.bytes)) = some (some (.agg #[.int .i64 0, .string ByteArray.empty]), 2, 24) := by kernel_rfl
theorem rc_one (r : Ref) : ∀ u ∈ rc r, u.oneCell' = true := by
  intro u hu; simp only [rc, List.mem_cons, List.not_mem_nil, or_false] at hu
  rcases hu with rfl | rfl <;> rfl
/-- the line has one name more: what append and the store of it leave -/
theorem mline {B qb : Nat} {s : St} {d : QD} {w : World} (h : Inv B qb s d w) (r : Ref) (hl : s.line.length ≤ 1000000) (ty : TypeId) :
    ∃ (fg fc : Nat → Nat) (fw : Nat → World), (∀ q, (Builtin.append_ #[28, 28] ty #[d.lv, .slice (some ⟨w.heap.size, 0, none⟩) 1 1]).run Try.prog ((w.alloc (.cells #[.int .i64 r.kind, .string r.name] 30)).drewN q) = .ok (.slice (some ⟨fg q, 0, none⟩) (s.line.length + 1) (fc q)) (fw q)) ∧
      (∀ q, (fw q).cell? ⟨qb, 3, none⟩ = some d.lv) ∧ (∀ q, (fw q).frozen? ⟨qb, 3, none⟩ = false) ∧
      ∀ q, Step B qb d w { s with line := s.line ++ [r] } ((fw q).setCell ⟨qb, 3, none⟩ (.slice (some ⟨fg q, 0, none⟩) (s.line.length + 1) (fc q))) := by
  obtain ⟨fg, fc, fw, hf⟩ := G.app_fn (P := Try.prog) 28 30 ty B 2 24 _ Try.underlying28 info30 rfl (by decide) d.lv s.line.length (s.line.flatMap rc) (rc r) rfl (rc_one r) h.line (Nat.le_trans h.hB (Nat.le_of_lt h.lt)) (by unfold maxLen; omega) (by omega)
  have keep : ∀ q j, j < w.heap.size → d.lv.ownBlock ≠ some j → (fw q).heap[j]? = w.heap[j]? := fun q j hj hne => (hf q).2.2.1.block j hj (fun e => hne e.symm)
  have hqb : d.lv.ownBlock ≠ some qb := fun e => by
    obtain ⟨c, hc⟩ := owns_block h.line e
    exact cells_not hc h.cells (by decide) rfl
  have hq : ∀ q, (fw q).heap[qb]? = some (.cells (qcells s d) 60 (0, 0)) := fun q => (keep q qb h.lt hqb).trans h.cells
  refine ⟨fg, fc, fw, fun q => (hf q).1, fun q => by simp [World.cell?, hq q, qcells], fun q => by simp [World.frozen?, hq q], fun q => ?_⟩
  have hg := (hf q).2.2.2
  have hown := (hf q).2.1
  have hgq : fg q ≠ qb := by
    rcases hg with hg | hg
    · intro e; rw [e] at hg; exact hqb hg
    · have := h.lt; omega
  have hlen : (s.line ++ [r]).length = s.line.length + 1 := by simp
  have kp : ∀ j, j ≠ qb → ((fw q).setCell ⟨qb, 3, none⟩ (.slice (some ⟨fg q, 0, none⟩) (s.line.length + 1) (fc q))).heap[j]? = (fw q).heap[j]? := fun j hj => Below.heap_setCell _ _ _ _ hj
  have foot : ∀ j, j ≠ qb → Foot qb d j → d.lv.ownBlock ≠ some j → ((fw q).setCell ⟨qb, 3, none⟩ (.slice (some ⟨fg q, 0, none⟩) (s.line.length + 1) (fc q))).heap[j]? = w.heap[j]? := fun j h1 h2 h3 => (kp j h1).trans (keep q j (h.foot_lt h2) h3)
  have hmne : ∀ i, d.m i ≠ qb := fun i => (map_not_cells h.cells (h.maps i)).symm
  have hmlv : ∀ i, d.lv.ownBlock ≠ some (d.m i) := fun i e => by
    obtain ⟨c, hc⟩ := owns_block h.line e
    exact map_not_cells hc (h.maps i) rfl
  refine ⟨{ d with lv := .slice (some ⟨fg q, 0, none⟩) (s.line.length + 1) (fc q) }, ?_, ?_, ?_⟩
  · refine ⟨?_, h.hB, ?_, ?_, fun i => (h.maps i).of_block (foot _ (hmne i) (.inr (.inl ⟨i, rfl⟩)) (hmlv i)), h.mB, h.apart⟩
    · rw [heap_setCell_same _ _ _ _ _ _ (hq q)]
      simp [qcells]
    · refine owns_kept (w := fw q) ?_ (fun j hj => kp j ?_)
      · show World.ownsRow _ B 30 2 _ (s.line ++ [r]).length ((s.line ++ [r]).flatMap rc)
        rw [hlen, List.flatMap_append]
        simpa using hown
      · have : fg q = j := by simpa [Value.ownBlock] using hj
        rw [← this]; exact hgq
    · refine owns_kept h.pile (fun j hj => ?_)
      obtain ⟨c, hc⟩ := owns_block h.pile hj
      refine foot j (cells_not hc h.cells (by decide)) (.inr (.inr (.inr hj))) (fun e => ?_)
      obtain ⟨c', hc'⟩ := owns_block h.line e
      exact cells_not hc' hc (by decide) rfl
  · intro j hj
    rcases hj with rfl | ⟨i, rfl⟩ | hj | hj
    · exact .inl (.inl rfl)
    · exact .inl (.inr (.inl ⟨i, rfl⟩))
    · have : fg q = j := by simpa [Value.ownBlock] using hj
      rcases hg with hg | hg
      · exact .inl (.inr (.inr (.inl (by rw [hg, this]))))
      · exact .inr (by omega)
    · exact .inl (.inr (.inr (.inr hj)))
  · refine ⟨(hf q).2.2.1.os, (hf q).2.2.1.tape, (hf q).2.2.1.output, ?_, fun j hj hF => ?_⟩
    · have := (hf q).2.2.1.size
      simpa [World.setCell] using this
    · exact (kp j (fun e => hF (.inl e))).trans (keep q j hj (fun e => hF (.inr (.inr (.inl e)))))
/-- append as a step of a region that draws, its run known -/
theorem step_append_run {P : Program} {ops : Array Oper} {o : Oper} {a : Act} {w : World} {K : Act → World → Prop} {Q : Exit → Act → World → Prop} {E : Prop}
    (hg : o.guard = none) (s x : Operand) (t : TypeId) (hop : o.op = Op.call { callee := Callee.builtin Builtin.append, args := #[s, x], argTypes := #[t, t] }) {v v2 v1 : Value} {w1 : World}
    (hs : a.eval s = v) (hx : a.eval x = v2) (hrun : (Builtin.append_ #[t, t] o.type #[v, v2]).run P w = .ok v1 w1) (hK : K (a.put o.dst v1) w1) :
    if Region.wanted o (yielded ops a.tmps) = true then Oper.wp P o a w K Q else E := by
  have hw : Region.wanted o (yielded ops a.tmps) = true := by simp [Region.wanted, hg]
  rw [if_pos hw]
  unfold Oper.wp
  simp [execOp, hop, resolve, invoke, builtin, hs, hx, hrun, Result.andThen]
  exact hK
theorem Step.of {B qb : Nat} {s' : St} {d : QD} {w w' : World} (h : Inv B qb s' d w') (hf : Fr (Foot qb d) w w') : Step B qb d w s' w' := ⟨d, h, fun _ hj => .inl hj, hf⟩
/-- Step from a world that came of another by blocks that are the queue's, and new ones -/
theorem Step.from' {B qb : Nat} {s' : St} {d : QD} {w w1 w' : World} (hf : Fr (Foot qb d) w w1) (h : Step B qb d w1 s' w') : Step B qb d w s' w' := by
  obtain ⟨d', h1, h2, h3⟩ := h
  exact ⟨d', h1, fun j hj => (h2 j hj).imp id (fun h => Nat.le_trans hf.size h), hf.trans h3 (fun j hj => .inl hj)⟩
def addS (s : St) (r : Ref) : St :=
  if 0 < num (s.mp 0) r then s
  else if num (s.mp 1) r = 0 then { s with line := s.line ++ [r], mp := fun j => if j = 0 then M.put (s.mp 0) r 1 else s.mp j }
  else { s with mp := fun j => if j = 0 then M.put (s.mp 0) r 1 else s.mp j }
set_option maxRecDepth 100000 in
set_option maxHeartbeats 2000000 in
theorem add_any (B qb : Nat) (s : St) (d : QD) (r : Ref) (w : World) (h : Inv B qb s d w) (hl : s.line.length ≤ 1000000) :
    Calls Try.prog 9 #[.pointer (some ⟨qb, 0, none⟩), rv r] w fun e w' => e = .returned (.tuple #[]) ∧ Step B qb d w (addS s r) w' := by
  obtain ⟨k, nm⟩ := r
  have hx : w.heap.size ≠ qb := fun e => by have := h.lt; omega
  obtain ⟨W, hW⟩ : ∃ W, W = w.alloc (.cells #[.int .i64 k, .string nm] 30) := ⟨_, rfl⟩
  have hbW : Below w.heap.size w W := by rw [hW]; exact (Below.refl _ _).alloc (Nat.le_refl _) _
  have hI := h.below hbW
  have c4 := hI.cell 4
  have c5 := hI.cell 5
  have c3 := hI.cell 3
  have look1 := look (hI.maps 0) k nm
  have hqb : qb < w.heap.size := h.lt
  unfold rv
  simp only [qcells, List.getElem?_toArray, List.getElem?_cons_succ, List.getElem?_cons_zero] at c3 c4 c5
  rw [hW] at look1 c3 c4 c5
  by_cases hm : 0 < num (s.mp 0) ⟨k, nm⟩
  · have hm' : decide (0 < num (s.mp 0) ⟨k, nm⟩) = true := by simpa using hm
    have ha : addS s ⟨k, nm⟩ = s := if_pos hm
    have Ha := Lib.hid ha
    have HI := Lib.hid hI
    have HW := Lib.hid hW
    have Hb := Lib.hid hbW
    clear ha hI hW h hl hx hbW
    go_enter Try.func9, Try.ntmps9
    go_wp2
    go_quiet (fail)
    go_wp2
    refine bodyPost_ret (results_none rfl _ _ _) rfl ?_
    refine ⟨rfl, ?_⟩
    rw [Ha.out, ← HW.out]
    exact Step.of (HI.out.keep fun _ _ => rfl) (Fr.of_below (G.bdrewN Hb.out _))
  · have hm' : decide (0 < num (s.mp 0) ⟨k, nm⟩) = false := decide_eq_false hm
    obtain ⟨o, ho1, ho2⟩ := mput hI 0 k nm 1
    rw [hW] at ho1
    have hm0 : d.m 0 ≠ w.heap.size := Nat.ne_of_lt (h.foot_lt (.inr (.inl ⟨0, rfl⟩)))
    have hbox : ∀ n, (M.upd (W.drewN n) (d.m 0) o).heap[w.heap.size]? = some (.cells #[.int .i64 k, .string nm] 30 (0, 0)) := fun n => by
      rw [M.upd_other _ _ _ _ hm0.symm, hW]; exact G.heap_new _ _
    have hf2 : ∀ n, Fr (Foot qb d) w (M.upd (W.drewN n) (d.m 0) o) := fun n => (Fr.of_below hbW).trans (fr_upd W n (d.m 0) o (.inr (.inl ⟨0, rfl⟩))) (fun _ hj => .inl hj)
    have Ho2 := Lib.hid ho2
    have Hf2 := Lib.hid hf2
    have Hbox := Lib.hid hbox
    have HI := Lib.hid hI
    have HW := Lib.hid hW
    have Hm := Lib.hid hm
    have Hl := Lib.hid hl
    clear hI hW h hl hx hbW ho2 hf2 hbox hm0 hm
    go_enter Try.func9, Try.ntmps9
    go_wp2
    go_quiet (fail)
    go_wp2
    go_region
    go_wp2
    obtain ⟨w2, hw2⟩ : ∃ w2, w2 = M.upd ((w.alloc (.cells #[.int .i64 k, .string nm] 30)).drewN (nq + 1)) (d.m 0) o := ⟨_, rfl⟩
    have hI2 := Ho2.out (nq + 1)
    have hF2 := Hf2.out (nq + 1)
    have hB2 := Hbox.out (nq + 1)
    rw [HW.out, ← hw2] at hI2 hF2 hB2
    rw [← hw2]
    have hn : (if (1 : Fin 4) = 0 then M.put (s.mp 0) ⟨k, nm⟩ 1 else s.mp 1) = s.mp 1 := rfl
    have look2 := look (hI2.maps 1) k nm
    simp only [hn] at look2
    have e5 := hI2.cell 5
    have e3 := hI2.cell 3
    simp only [qcells, List.getElem?_toArray, List.getElem?_cons_succ, List.getElem?_cons_zero] at e5 e3
    have e30 : w2.cell? ⟨w.heap.size, 0, none⟩ = some (.int .i64 k) := by simp [World.cell?, hB2]
    have e31 : w2.cell? ⟨w.heap.size, 1, none⟩ = some (.string nm) := by simp [World.cell?, hB2]
    have hlt := hI2.lt
    by_cases hb : num (s.mp 1) ⟨k, nm⟩ = 0
    · have hb' : ((num (s.mp 1) ⟨k, nm⟩ : Int) == 0) = true := by simpa using hb
      have ha : addS s ⟨k, nm⟩ = { s with line := s.line ++ [⟨k, nm⟩], mp := fun j => if j = 0 then M.put (s.mp 0) ⟨k, nm⟩ 1 else s.mp j } := by
        unfold addS; rw [if_neg (show ¬ 0 < num (s.mp 0) ⟨k, nm⟩ by have := Hm.out; omega), if_pos hb]
      have Ha := Lib.hid ha
      have HF := Lib.hid hF2
      have HI2 := Lib.hid hI2
      clear ha hb hI2 hF2 hB2 hw2 Ho2 Hf2 Hbox
      go_quiet (fail)
      go_wp2
      generalize hw3 : w2.drewN nq = w3
      have hI3 := HI2.out.keep (w1 := w2.drewN nq) (fun _ _ => rfl)
      rw [hw3] at hI3
      have hF3 : Fr (Foot qb d) w w3 := by rw [← hw3]; exact HF.out.trans (Fr.of_below (G.bdrewN (Below.refl _ _) _)) (fun _ hj => .inl hj)
      have f30 : w3.cell? ⟨w.heap.size, 0, none⟩ = some (.int .i64 k) := by rw [← hw3]; exact e30
      have f31 : w3.cell? ⟨w.heap.size, 1, none⟩ = some (.string nm) := by rw [← hw3]; exact e31
      have hlt3 := hI3.lt
      have hbx3 : w.heap.size < w3.heap.size := World.block_lt_of_cell? w3 _ f30
      have f3 := hI3.cell 3
      simp only [qcells, List.getElem?_toArray, List.getElem?_cons_succ, List.getElem?_cons_zero] at f3
      obtain ⟨fg, fc, fw, l1, l2, l3, l4⟩ := mline hI3 ⟨k, nm⟩ Hl.out 28
      have m1 : (Builtin.append_ #[28, 28] 28 #[d.lv, .slice (some ⟨w3.heap.size, 0, none⟩) 1 1]).run Try.prog (w3.alloc (.cells #[.int .i64 k, .string nm] 30)).drew = .ok (.slice (some ⟨fg 1, 0, none⟩) (s.line.length + 1) (fc 1)) (fw 1) := l1 1
      have M1 := Lib.hid m1
      have n2 := l2 1
      have n3 := l3 1
      clear l1 l2 l3 m1
      have H4 := Lib.hid l4
      have HF3 := Lib.hid hF3
      clear l4 hI3 hF3 hw3 e3 e30 e31 e5 hlt look2 ho1 look1 c3 c4 c5
      go_region_law (refine step_append_run rfl (.tmp 31) (.tmp 33) 28 rfl rfl rfl M1.out ?_)
      all_goals go_wp2
      all_goals refine bodyPost_end (results_none rfl _ _ _) rfl ⟨rfl, ?_⟩
      all_goals rw [Ha.out]; exact Step.from' HF3.out (H4.out _)
    · have hb' : ((num (s.mp 1) ⟨k, nm⟩ : Int) == 0) = false := by simpa using hb
      have ha : addS s ⟨k, nm⟩ = { s with mp := fun j => if j = 0 then M.put (s.mp 0) ⟨k, nm⟩ 1 else s.mp j } := by
        unfold addS; rw [if_neg (show ¬ 0 < num (s.mp 0) ⟨k, nm⟩ by have := Hm.out; omega), if_neg hb]
      have Ha := Lib.hid ha
      have HI2 := Lib.hid hI2
      have HF := Lib.hid hF2
      clear ha hb hI2 hF2 hB2 hw2 Ho2 Hf2 Hbox
      go_quiet (fail)
      go_wp2
      refine bodyPost_end (results_none rfl _ _ _) rfl ?_
      refine ⟨rfl, ?_⟩
      rw [Ha.out]
      exact Step.of (HI2.out.keep fun _ _ => rfl) ⟨HF.out.os, HF.out.tape, HF.out.output, HF.out.size, HF.out.block⟩
end Go.Proofs.Ythmknlflgajnpaa
