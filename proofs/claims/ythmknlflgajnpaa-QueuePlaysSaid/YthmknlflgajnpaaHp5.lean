/- The heap: an item more. -/
import Derived.Test.YthmknlflgajnpaaHp4
import Derived.Test.YthmknlflgajnpaaQue2
namespace Go.Proofs.Ythmknlflgajnpaa
set_option linter.unusedVariables false
set_option linter.unusedSimpArgs false
open Go.RowKit
theorem info64 : (Try.prog.info? 64).map (fun i => (i.zero, i.size, i.bytes)) = some (some (.agg #[.int .i64 0, .int .i64 0, .string ByteArray.empty]), 3, 32) := by kernel_rfl
theorem ic_one3 (x : Item) : ∀ u ∈ ic x, u.oneCell' = true := by
  intro u hu; simp only [ic, List.mem_cons, List.not_mem_nil, or_false] at hu
  rcases hu with rfl | rfl | rfl <;> rfl
/-- the pile has one item more: what append and the store of it leave -/
theorem mpile {B qb : Nat} {s : St} {d : QD} {w : World} (h : Inv B qb s d w) (x : Item) (hl : s.pile.length ≤ 1000000) (ty : TypeId) :
    ∃ (fg fc : Nat → Nat) (fw : Nat → World), (∀ q, (Builtin.append_ #[58, 58] ty #[d.wv, .slice (some ⟨w.heap.size, 0, none⟩) 1 1]).run Try.prog ((w.alloc (.cells #[.int .i64 x.due, .int .i64 x.ref.kind, .string x.ref.name] 64)).drewN q) = .ok (.slice (some ⟨fg q, 0, none⟩) (s.pile.length + 1) (fc q)) (fw q)) ∧
      (∀ q, (fw q).cell? ⟨qb, 7, none⟩ = some d.wv) ∧ (∀ q, (fw q).frozen? ⟨qb, 7, none⟩ = false) ∧
      ∀ q, Step B qb d w { s with pile := s.pile ++ [x] } ((fw q).setCell ⟨qb, 7, none⟩ (.slice (some ⟨fg q, 0, none⟩) (s.pile.length + 1) (fc q))) := by
  obtain ⟨fg, fc, fw, hf⟩ := G.app_fn (P := Try.prog) 58 64 ty B 3 32 _ Try.underlying58 info64 rfl (by decide) d.wv s.pile.length (s.pile.flatMap ic) (ic x) rfl (ic_one3 x) h.pile (Nat.le_trans h.hB (Nat.le_of_lt h.lt)) (by unfold maxLen; omega) (by omega)
  have keep : ∀ q j, j < w.heap.size → d.wv.ownBlock ≠ some j → (fw q).heap[j]? = w.heap[j]? := fun q j hj hne => (hf q).2.2.1.block j hj (fun e => hne e.symm)
  have hqb : d.wv.ownBlock ≠ some qb := fun e => by
    obtain ⟨c, hc⟩ := owns_block h.pile e
    exact cells_not hc h.cells (by decide) rfl
  have hq : ∀ q, (fw q).heap[qb]? = some (.cells (qcells s d) 60 (0, 0)) := fun q => (keep q qb h.lt hqb).trans h.cells
  refine ⟨fg, fc, fw, fun q => (hf q).1, fun q => by simp [World.cell?, hq q, qcells], fun q => by simp [World.frozen?, hq q], fun q => ?_⟩
  have hg := (hf q).2.2.2
  have hown := (hf q).2.1
  have hgq : fg q ≠ qb := by
    rcases hg with hg | hg
    · intro e; rw [e] at hg; exact hqb hg
    · have := h.lt; omega
  have hlen : (s.pile ++ [x]).length = s.pile.length + 1 := by simp
  have kp : ∀ j, j ≠ qb → ((fw q).setCell ⟨qb, 7, none⟩ (.slice (some ⟨fg q, 0, none⟩) (s.pile.length + 1) (fc q))).heap[j]? = (fw q).heap[j]? := fun j hj => Below.heap_setCell _ _ _ _ hj
  have foot : ∀ j, j ≠ qb → Foot qb d j → d.wv.ownBlock ≠ some j → ((fw q).setCell ⟨qb, 7, none⟩ (.slice (some ⟨fg q, 0, none⟩) (s.pile.length + 1) (fc q))).heap[j]? = w.heap[j]? := fun j h1 h2 h3 => (kp j h1).trans (keep q j (h.foot_lt h2) h3)
  have hmne : ∀ i, d.m i ≠ qb := fun i => (map_not_cells h.cells (h.maps i)).symm
  have hmlv : ∀ i, d.wv.ownBlock ≠ some (d.m i) := fun i e => by
    obtain ⟨c, hc⟩ := owns_block h.pile e
    exact map_not_cells hc (h.maps i) rfl
  refine ⟨{ d with wv := .slice (some ⟨fg q, 0, none⟩) (s.pile.length + 1) (fc q) }, ?_, ?_, ?_⟩
  · refine ⟨?_, h.hB, ?_, ?_, fun i => (h.maps i).of_block (foot _ (hmne i) (.inr (.inl ⟨i, rfl⟩)) (hmlv i)), h.mB, h.apart⟩
    · rw [heap_setCell_same _ _ _ _ _ _ (hq q)]
      simp [qcells]
    · refine owns_kept h.line (fun j hj => ?_)
      obtain ⟨c, hc⟩ := owns_block h.line hj
      refine foot j (cells_not hc h.cells (by decide)) (.inr (.inr (.inl hj))) (fun e => ?_)
      obtain ⟨c', hc'⟩ := owns_block h.pile e
      exact cells_not hc' hc (by decide) rfl
    · refine owns_kept (w := fw q) ?_ (fun j hj => kp j ?_)
      · show World.ownsRow _ B 64 3 _ (s.pile ++ [x]).length ((s.pile ++ [x]).flatMap ic)
        rw [hlen, List.flatMap_append]
        simpa using hown
      · have : fg q = j := by simpa [Value.ownBlock] using hj
        rw [← this]; exact hgq
  · intro j hj
    rcases hj with rfl | ⟨i, rfl⟩ | hj | hj
    · exact .inl (.inl rfl)
    · exact .inl (.inr (.inl ⟨i, rfl⟩))
    · exact .inl (.inr (.inr (.inl hj)))
    · have : fg q = j := by simpa [Value.ownBlock] using hj
      rcases hg with hg | hg
      · exact .inl (.inr (.inr (.inr (by rw [hg, this]))))
      · exact .inr (by omega)
  · refine ⟨(hf q).2.2.1.os, (hf q).2.2.1.tape, (hf q).2.2.1.output, ?_, fun j hj hF => ?_⟩
    · have := (hf q).2.2.1.size
      simpa [World.setCell] using this
    · exact (kp j (fun e => hF (.inl e))).trans (keep q j hj (fun e => hF (.inr (.inr (.inr e)))))
theorem ta_item (x : Item) (w : World) : (Instr.typeAssert (.iface 64 (.agg #[.int .i64 x.due, .int .i64 x.ref.kind, .string x.ref.name])) 20 64 true).run Try.prog w = .ok (.tuple #[.agg #[.int .i64 x.due, .int .i64 x.ref.kind, .string x.ref.name], .bool true]) w := by kernel_rfl
set_option maxRecDepth 100000 in
set_option maxHeartbeats 4000000 in
theorem ppush_any (B qb : Nat) (s : St) (d : QD) (x : Item) (w : World) (h : Inv B qb s d w) (hl : s.pile.length ≤ 100000) :
    Calls Try.prog 69 #[.pointer (some ⟨qb, 7, none⟩), .iface 64 (iv x)] w fun e w' => e = .returned (.tuple #[]) ∧ Step B qb d w { s with pile := s.pile ++ [x] } w' := by
  obtain ⟨W, hW⟩ : ∃ W, W = (w.alloc (.cells #[.int .i64 0, .int .i64 0, .string ⟨#[]⟩] 64)).setRow w.heap.size (ica x) := ⟨_, rfl⟩
  have hbW : Below w.heap.size w W := by rw [hW]; exact bel_allocRow _ _ _ _
  have hI := h.below hbW
  have hbx : W.heap[w.heap.size]? = some (.cells (ica x) 64 (0, 0)) := by rw [hW]; exact setRow_heap _ _ _ _ _ _ (G.heap_new _ _)
  obtain ⟨xb, hxb⟩ : ∃ xb, xb = w.heap.size := ⟨_, rfl⟩
  rw [← hxb] at hbx
  obtain ⟨fg, fc, fw, l1, l2, l3, l4⟩ := mpile hI x (by omega) 58
  have m1 : (Builtin.append_ #[58, 58] 58 #[d.wv, .slice (some ⟨W.heap.size, 0, none⟩) 1 1]).run Try.prog (W.alloc (.cells #[.int .i64 x.due, .int .i64 x.ref.kind, .string x.ref.name] 64)).drew = .ok (.slice (some ⟨fg 1, 0, none⟩) (s.pile.length + 1) (fc 1)) (fw 1) := l1 1
  have M1 := Lib.hid m1
  have n2 := l2 1
  have n3 := l3 1
  have c7 := hI.cell 7
  simp only [qcells, List.getElem?_toArray, List.getElem?_cons_succ, List.getElem?_cons_zero] at c7
  have x0 : W.cell? ⟨xb, 0, none⟩ = some (.int .i64 x.due) := by simp [World.cell?, hbx, ica]
  have x1 : W.cell? ⟨xb, 1, none⟩ = some (.int .i64 x.ref.kind) := by simp [World.cell?, hbx, ica]
  have x2 : W.cell? ⟨xb, 2, none⟩ = some (.string x.ref.name) := by simp [World.cell?, hbx, ica]
  have lq := hI.lt
  have lx : xb < W.heap.size := (Array.getElem?_eq_some_iff.1 hbx).1
  have H4 := Lib.hid l4
  have HF := Lib.hid (Fr.of_below (F := Foot qb d) hbW)
  have HW := Lib.hid hW
  have HX := Lib.hid hxb
  clear l1 l2 l3 l4 m1 hI hbx hbW hW h hl hxb
  have ta := ta_item x w
  unfold iv
  go_enter Try.func69, Try.ntmps69
  go_upto_region 1 with ((refine wpList_store_row rfl 64 (.tmp 4) (.tmp 9) rfl _ (ica x) rfl rfl 64 _ (G.heap_new _ _) size64 rfl (ica_one x) ?_); rw [← HW.out, ← HX.out])
  go_wp2
  go_region_law (refine step_append_run rfl (.tmp 15) (.tmp 17) 58 rfl rfl rfl M1.out ?_)
  all_goals go_wp2
  all_goals refine bodyPost_end (results_none rfl _ _ _) rfl ⟨rfl, ?_⟩
  all_goals exact Step.from' HF.out (H4.out _)
end Go.Proofs.Ythmknlflgajnpaa
