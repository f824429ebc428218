/- The queue's Tick: what is due comes one by one. -/
import Derived.Test.YthmknlflgajnpaaHp9
import Derived.Test.YthmknlflgajnpaaRef10
import Derived.Test.YthmknlflgajnpaaEnt
import Derived.Deep.CutRange
namespace Go.Proofs.Ythmknlflgajnpaa
set_option linter.unusedVariables false
set_option linter.unusedSimpArgs false
open Go.RowKit
/-- what is carried through a walk on the queue -/
structure QRun (B qb : Nat) (d0 : QD) (w0 : World) (s : St) (d : QD) (z : World) : Prop where
  inv : Inv B qb s d z
  foot : ∀ j, Foot qb d j → Foot qb d0 j ∨ w0.heap.size ≤ j
  fr : Fr (Foot qb d0) w0 z
theorem QRun.start {B qb : Nat} {s : St} {d : QD} {w : World} (h : Inv B qb s d w) : QRun B qb d w s d w := ⟨h, fun _ hj => .inl hj, Fr.refl _ _⟩
theorem QRun.step {B qb : Nat} {d0 d : QD} {w0 z z' : World} {s s' : St} (h : QRun B qb d0 w0 s d z) (k : Step B qb d z s' z') : ∃ d', QRun B qb d0 w0 s' d' z' := by
  obtain ⟨d', k1, k2, k3⟩ := k
  refine ⟨d', k1, fun j hj => ?_, h.fr.trans k3 h.foot⟩
  rcases k2 j hj with h5 | h5
  · exact h.foot j h5
  · exact .inr (Nat.le_trans h.fr.size h5)
theorem QRun.below {B qb : Nat} {d0 d : QD} {w0 z z' : World} {s : St} (h : QRun B qb d0 w0 s d z) (hb : Below z.heap.size z z') : QRun B qb d0 w0 s d z' :=
  ⟨h.inv.below hb, h.foot, h.fr.trans (F := Foot qb d0) (Fr.of_below (F := Foot qb d0) hb) (fun _ hj => .inl hj)⟩
theorem QRun.done {B qb : Nat} {d0 d : QD} {w0 z : World} {s : St} (h : QRun B qb d0 w0 s d z) : Step B qb d0 w0 s z := ⟨d, h.inv, h.foot, h.fr⟩
/-- the clock is stored -/
theorem Inv.clock {B qb : Nat} {s : St} {d : QD} {w : World} (h : Inv B qb s d w) (x : Int) : Step B qb d w { s with now := x } (w.setCell ⟨qb, 2, none⟩ (.int .i64 x)) := by
  have kp : ∀ j, j ≠ qb → (w.setCell ⟨qb, 2, none⟩ (.int .i64 x)).heap[j]? = w.heap[j]? := fun j hj => Below.heap_setCell _ _ _ _ hj
  refine Step.of ⟨?_, h.hB, ?_, ?_, fun i => (h.maps i).of_block (kp _ (map_not_cells h.cells (h.maps i)).symm), h.mB, h.apart⟩ (fr_set7 w qb 2 _ (.inl rfl))
  · rw [heap_setCell_same _ _ _ _ _ _ h.cells]
    simp [qcells]
  · refine owns_kept h.line (fun j hj => kp j ?_)
    obtain ⟨c, hc⟩ := owns_block h.line hj
    exact cells_not hc h.cells (by decide)
  · refine owns_kept h.pile (fun j hj => kp j ?_)
    obtain ⟨c, hc⟩ := owns_block h.pile hj
    exact cells_not hc h.cells (by decide)
def popS (s : St) (q : List Item) : St := { s with pile := q }
def dropW (s : St) (r : Ref) : St := { s with mp := fun j => if j = 2 then M.del (s.mp 2) r else s.mp j }
/-- what the queue does behind its clock -/
inductive PT : St → St → Prop
  | stop (s : St) (h : ∀ x, s.pile[0]? = some x → s.now < x.due) : PT s s
  | skip (s : St) (n : Nat) (x0 : Item) (q : List Item) (x : Item) (s' : St) (hn : s.pile.length = n + 1) (h0 : s.pile[0]? = some x0) (hd : x0.due ≤ s.now) (hq : downL (swapL s.pile 0 n) n 0 = q ++ [x]) (hm : M.get (s.mp 2) x.ref ≠ some x.due) (h : PT (popS s q) s') : PT s s'
  | take (s : St) (n : Nat) (x0 : Item) (q : List Item) (x : Item) (s' : St) (hn : s.pile.length = n + 1) (h0 : s.pile[0]? = some x0) (hd : x0.due ≤ s.now) (hq : downL (swapL s.pile 0 n) n 0 = q ++ [x]) (hm : M.get (s.mp 2) x.ref = some x.due) (h : PT (addS (dropW (popS s q) x.ref) x.ref) s') : PT s s'
theorem add_line (s : St) (r : Ref) : (addS s r).line.length ≤ s.line.length + 1 ∧ (addS s r).pile = s.pile := by
  unfold addS
  split
  · exact ⟨by omega, rfl⟩
  · split
    · exact ⟨by simp, rfl⟩
    · exact ⟨by show s.line.length ≤ _; omega, rfl⟩
def QTick (B qb : Nat) (d : QD) (s : St) (w w' : World) : Prop := ∃ s', PT s s' ∧ Step B qb d w s' w'
/-- the loop's relation -/
def QLoop (B qb : Nat) (d0 : QD) (w0 : World) (s0 : St) (g : Nat) (wr : World) : Prop :=
  ∃ s1 d1, QRun B qb d0 w0 s1 d1 wr ∧ s1.pile.length = g ∧ s1.line.length + s1.pile.length ≤ 900000 ∧ ∀ s', PT s1 s' → PT s0 s'
theorem get_iff (l : NM) (r : Ref) (due u : Int) (b : Bool) (hu : u = num l r) (hb : b = (M.get l r).isSome) : (M.get l r = some due → b = true ∧ u = due) ∧ (b = true → u = due → M.get l r = some due) := by
  subst hu hb
  unfold num
  cases M.get l r with
  | none => simp
  | some o => simp
theorem qlen2 {p q : List Item} {x : Item} {n : Nat} (h : downL (swapL p 0 n) n 0 = q ++ [x]) (hn : p.length = n + 1) : q.length = n := by
  have := congrArg List.length h
  rw [downL_len, swapL_len, hn, List.length_append] at this
  simpa using this.symm
theorem qlen {s : St} {q : List Item} {x : Item} {n : Nat} (h : downL (swapL s.pile 0 n) n 0 = q ++ [x]) (hn : s.pile.length = n + 1) (hl : s.line.length + s.pile.length ≤ 900000) : s.line.length + q.length ≤ 900000 := by
  have := qlen2 h hn
  omega
theorem QLoop.below {B qb : Nat} {d0 : QD} {w0 : World} {s0 : St} {g : Nat} {z z' : World} (h : QLoop B qb d0 w0 s0 g z) (hb : Below z.heap.size z z') : QLoop B qb d0 w0 s0 g z' := by
  obtain ⟨s1, d1, h1, h2⟩ := h
  exact ⟨s1, d1, h1.below hb, h2⟩
set_option maxRecDepth 100000 in
set_option maxHeartbeats 8000000 in
theorem tick_any (B qb : Nat) (s : St) (d : QD) (m : Int) (w : World) (h : Inv B qb s d w) (hl : s.line.length + s.pile.length ≤ 900000) (hnow : 0 ≤ s.now ∧ s.now ≤ 1099511627776) :
    Calls Try.prog 19 #[.pointer (some ⟨qb, 0, none⟩), .int .i64 m] w fun e w' => e = .returned (.tuple #[]) ∧ QTick B qb d { s with now := s.now + clamp0 m } w w' := by
  obtain ⟨D, hD⟩ : ∃ D, D = s.now + clamp0 m := ⟨_, rfl⟩
  have hN : clamp0 m = min (max 0 m) 1048576 := by
    unfold clamp0 clampS
    split
    · omega
    · split <;> omega
  rw [← hD]
  rw [hN] at hD
  have hw : wrap64 (s.now + min (max 0 m) 1048576) = D := by unfold wrap64; omega
  have c2 := h.cell 2
  have f2 := h.free 2
  have hqb := h.lt
  simp only [qcells, List.getElem?_toArray, List.getElem?_cons_succ, List.getElem?_cons_zero] at c2
  obtain ⟨s0, hs0⟩ : ∃ s0 : St, s0 = { s with now := D } := ⟨_, rfl⟩
  rw [← hs0]
  have hst := h.clock D
  rw [← hs0] at hst
  have h0l : s0.line.length + s0.pile.length ≤ 900000 := by rw [hs0]; exact hl
  have HR := Lib.hid (show QLoop B qb d w s0 s0.pile.length (w.setCell ⟨qb, 2, none⟩ (.int .i64 (wrap64 (s.now + min (max 0 m) 1048576)))) from (by
    rw [hw]
    obtain ⟨d1, h1⟩ := (QRun.start h).step hst
    exact ⟨s0, d1, h1, rfl, h0l, fun _ p => p⟩))
  clear h hst hl h0l hs0 hD hN hnow hw
  go_enter Try.func19, Try.ntmps19
  go_wp2
  clear c2 f2
  go_loopg [] s0.pile.length (fun gk wr => Hid (QLoop B qb d w s0 gk wr))
  case atStart => exact HR
  case round =>
    obtain ⟨s1, d1, hrun, hg, hl, hpt⟩ := hrel.out
    have HRun := Lib.hid hrun
    have HG := Lib.hid hg
    have HL := Lib.hid hl
    have HPT := Lib.hid hpt
    have c7 := hrun.inv.cell 7
    have c2 := hrun.inv.cell 2
    have hqr := hrun.inv.lt
    simp only [qcells, List.getElem?_toArray, List.getElem?_cons_succ, List.getElem?_cons_zero] at c7 c2
    by_cases hp : s1.pile.length = 0
    · obtain ⟨A, c, hv⟩ := owns_shape hrun.inv.pile
      rw [hv, hp] at c7
      have HP := Lib.hid hp
      clear hrun hg hl hpt hrel hp hv
      go_wp2
      go_quiet (fail)
      go_wp2
      refine bodyPost_end (results_none rfl _ _ _) rfl ⟨rfl, s1, HPT.out _ (.stop _ ?_), (HRun.out.below (G.bdrewN (Below.refl _ _) _)).done⟩
      intro x hx
      have := HP.out
      rw [List.length_eq_zero_iff] at this
      rw [this] at hx; cases hx
    · obtain ⟨n, hn⟩ : ∃ n, s1.pile.length = n + 1 := ⟨s1.pile.length - 1, by omega⟩
      obtain ⟨g, cap, hv, hpr, hB⟩ := wv_form hrun.inv (by omega)
      obtain ⟨x0, hx0⟩ : ∃ x, s1.pile[0]? = some x := ⟨_, List.getElem?_eq_getElem (by omega)⟩
      have r0 := hpr.at hx0
      have g0 : wr.cell? ⟨g, 0, none⟩ = some (.int .i64 x0.due) := by
        have := r0 0 (.int .i64 x0.due) rfl
        simpa using this
      have hcap := hpr.le
      have hmx := hpr.mx
      unfold maxLen at hmx
      rw [hv, hn] at c7
      rw [hn] at hcap
      have hgl : g < wr.heap.size := World.block_lt_of_cell? wr _ g0
      have dl : decide ((0 : Int) < ((n + 1 : Nat) : Int)) = true := decide_eq_true (by omega)
      have dl2 : (0 : Int) < ((n : Nat) : Int) + 1 := by omega
      have HX0 := Lib.hid hx0
      have HN := Lib.hid hn
      by_cases hd : x0.due ≤ s1.now
      · have hd' : decide (x0.due ≤ s1.now) = true := decide_eq_true hd
        have HD := Lib.hid hd
        have C := Lib.hid (fun W (hb : Below wr.heap.size wr W) => hpop_any B qb s1 d1 n hn W (hrun.inv.below hb) (by omega))
        clear hrun hg hl hpt hrel hp hv hpr hx0 r0 hn hd hB
        go_wp2
        go_quiet (fail)
        go_upto_region 3 with (fail)
        generalize hwv : wr.drewN _ = wv
        have HB1 : Hid (Below wr.heap.size wr wv) := Lib.hid (by rw [← hwv]; exact G.bdrewN (Below.refl _ _) _)
        clear hwv c7 c2 g0 hgl hcap hmx dl dl2 hd' hqr
        have C1 := Lib.hid (C.out wv HB1.out)
        unfold iv at C1
        clear C
        go_upto_region 4 with (first | (go_at_call 29; refine C1.out.mono ?_; rintro e w1 ⟨q, ⟨due, k, nm⟩, hq, rfl, hst⟩; have HQ := Lib.hid hq; have HST := Lib.hid hst; clear hq hst; have ta := ta_item ⟨due, k, nm⟩ w1) | (refine wpList_store_row rfl 64 (.tmp 4) (.tmp 47) rfl _ (ica ⟨due, k, nm⟩) rfl rfl 64 _ (G.heap_new _ _) size64 rfl (ica_one _) ?_))
        obtain ⟨xb, hxb⟩ : ∃ xb, xb = w1.heap.size := ⟨_, rfl⟩
        obtain ⟨W2, hW2⟩ : ∃ W2, W2 = (w1.alloc (.cells #[.int .i64 0, .int .i64 0, .string ⟨#[]⟩] 64)).setRow w1.heap.size (ica ⟨due, k, nm⟩) := ⟨_, rfl⟩
        have hbW : Below w1.heap.size w1 W2 := by rw [hW2]; exact bel_allocRow _ _ _ _
        have hbx : W2.heap[xb]? = some (.cells (ica ⟨due, k, nm⟩) 64 (0, 0)) := by rw [hW2, hxb]; exact setRow_heap _ _ _ _ _ _ (G.heap_new _ _)
        rw [← hW2, ← hxb]
        obtain ⟨d2, hrun2⟩ := (HRun.out.below HB1.out).step HST.out
        have hxl : ∀ j, Foot qb d2 j → j ≠ xb := fun j hj => by have := hrun2.inv.foot_lt hj; omega
        have hrun3 := hrun2.below hbW
        have HBX := Lib.hid hbx
        have HXL := Lib.hid hxl
        have HR3 : Hid (QRun B qb d w (popS s1 q) d2 W2) := Lib.hid hrun3
        have c6 := hrun3.inv.cell 6
        simp only [qcells, List.getElem?_toArray, List.getElem?_cons_succ, List.getElem?_cons_zero] at c6
        have x0c : W2.cell? ⟨xb, 0, none⟩ = some (.int .i64 due) := by simp [World.cell?, hbx, ica]
        have x1c : W2.cell? ⟨xb, 1, none⟩ = some (.int .i64 k) := by simp [World.cell?, hbx, ica]
        have x2c : W2.cell? ⟨xb, 2, none⟩ = some (.string nm) := by simp [World.cell?, hbx, ica]
        have lq := hrun3.inv.lt
        have lx : xb < W2.heap.size := (Array.getElem?_eq_some_iff.1 hbx).1
        clear hbW hbx hW2 hxb hrun2 hrun3 hxl ta HST C1
        obtain ⟨u, hu⟩ : ∃ u, u = num (s1.mp 2) ⟨k, nm⟩ := ⟨_, rfl⟩
        obtain ⟨b, hb⟩ : ∃ b, b = (M.get (s1.mp 2) ⟨k, nm⟩).isSome := ⟨_, rfl⟩
        have lk := lookT (HR3.out.inv.maps 2) k nm hu hb
        have HGT := Lib.hid (get_iff (s1.mp 2) ⟨k, nm⟩ due u b hu hb)
        clear hu hb
        have c : b = false ∨ (b = true ∧ u ≠ due) ∨ (b = true ∧ u = due) := by cases b <;> simp <;> omega
        rcases c with rfl | ⟨rfl, hud⟩ | ⟨rfl, rfl⟩
        · have HS : Hid (QLoop B qb d w s0 q.length W2) := Lib.hid ⟨popS s1 q, d2, HR3.out, rfl, qlen (s := s1) HQ.out HN.out HL.out, fun s' p => HPT.out s' (.skip s1 n x0 q ⟨due, k, nm⟩ s' HN.out HX0.out HD.out HQ.out (fun e => by have := HGT.out.1 e; simp at this) p)⟩
          have HGK : q.length < gk := by have h1 := qlen2 HQ.out HN.out; have h2 := HG.out; have h3 := HN.out; omega
          go_wp2
          go_quiet (fail)
          go_wp2
          go_roundg q.length
          case measure => exact HGK
          case rel => exact Lib.hid (HS.out.below (G.bdrewN (Below.refl _ _) _))
        · have n1 : ((u : Int) != due) = true := by simpa using hud
          have n2 : ((u : Int) == due) = false := by simpa using hud
          have HS : Hid (QLoop B qb d w s0 q.length W2) := Lib.hid ⟨popS s1 q, d2, HR3.out, rfl, qlen (s := s1) HQ.out HN.out HL.out, fun s' p => HPT.out s' (.skip s1 n x0 q ⟨due, k, nm⟩ s' HN.out HX0.out HD.out HQ.out (fun e => hud (HGT.out.1 e).2) p)⟩
          have HGK : q.length < gk := by have h1 := qlen2 HQ.out HN.out; have h2 := HG.out; have h3 := HN.out; omega
          clear hud
          go_wp2
          go_quiet (fail)
          go_wp2
          go_roundg q.length
          case measure => exact HGK
          case rel => exact Lib.hid (HS.out.below (G.bdrewN (Below.refl _ _) _))
        · have n1 : ((u : Int) != u) = false := by simp
          have n2 : ((u : Int) == u) = true := by simp
          have HS := Lib.hid (fun s' p => HPT.out s' (.take s1 n x0 q ⟨u, k, nm⟩ s' HN.out HX0.out HD.out HQ.out (HGT.out.2 rfl rfl) p))
          have HQL := Lib.hid (qlen HQ.out HN.out HL.out)
          have HGK : q.length < gk := by have h1 := qlen2 HQ.out HN.out; have h2 := HG.out; have h3 := HN.out; omega
          go_wp2
          go_quiet (fail)
          go_upto_region 6 with (fail)
          generalize hw3 : W2.drewN _ = W3
          have HB3 : Hid (Below W2.heap.size W2 W3) := Lib.hid (by rw [← hw3]; exact G.bdrewN (Below.refl _ _) _)
          have e6 : W3.cell? ⟨qb, 6, none⟩ = some (.map (some (d2.m 2))) := by rw [← hw3]; exact c6
          have e1 : W3.cell? ⟨xb, 1, none⟩ = some (.int .i64 k) := by rw [← hw3]; exact x1c
          have e2 : W3.cell? ⟨xb, 2, none⟩ = some (.string nm) := by rw [← hw3]; exact x2c
          have lq3 : qb < W3.heap.size := by rw [← hw3]; exact lq
          have lx3 : xb < W3.heap.size := by rw [← hw3]; exact lx
          clear hw3 c6 x0c x1c x2c lq lx lk n1 n2
          have HR4 := Lib.hid (HR3.out.below HB3.out)
          obtain ⟨o, ho1, ho2⟩ := mdel HR4.out.inv 0 2 k nm
          have M0 := Lib.hid (ho1 1)
          have hx2 : xb ≠ d2.m 2 := fun e => HXL.out _ (.inr (.inl ⟨2, rfl⟩)) e.symm
          obtain ⟨W4, hW4⟩ : ∃ W4, W4 = M.upd (W3.drewN 1) (d2.m 2) o := ⟨_, rfl⟩
          have hI4 := ho2 1
          have k1 : W4.cell? ⟨xb, 1, none⟩ = some (.int .i64 k) := by rw [hW4]; exact upd_cell e1 hx2
          have k2 : W4.cell? ⟨xb, 2, none⟩ = some (.string nm) := by rw [hW4]; exact upd_cell e2 hx2
          have hf4 : Fr (Foot qb d2) W3 W4 := by rw [hW4]; exact fr_upd W3 1 (d2.m 2) o (.inr (.inl ⟨2, rfl⟩))
          rw [← hW4] at hI4
          obtain ⟨d5, hrun5⟩ := HR4.out.step (show Step B qb d2 W3 (dropW (popS s1 q) ⟨k, nm⟩) W4 from Step.of hI4 hf4)
          have HR5 := Lib.hid hrun5
          have HW4 := Lib.hid hW4
          have C9 := Lib.hid (add_any B qb _ d5 ⟨k, nm⟩ W4 hrun5.inv (by have := HQL.out; show s1.line.length ≤ _; omega))
          unfold rv at C9
          have HLL : Hid ((addS (dropW (popS s1 q) ⟨k, nm⟩) ⟨k, nm⟩).line.length + q.length ≤ 900000) := Lib.hid (by have h1 := (add_line (dropW (popS s1 q) ⟨k, nm⟩) ⟨k, nm⟩).1; have h2 := qlen2 HQ.out HN.out; have h3 := HL.out; have h4 := HN.out; have h5 : (dropW (popS s1 q) ⟨k, nm⟩).line.length = s1.line.length := rfl; omega)
          have HPP := Lib.hid (add_line (dropW (popS s1 q) ⟨k, nm⟩) ⟨k, nm⟩).2
          clear ho1 ho2 hW4 hI4 hf4 hrun5 hx2
          go_region_law (refine step_delete_run rfl (.tmp 74) (.tmp 76) 56 30 rfl rfl rfl M0.out ?_)
          all_goals
            try rw [← HW4.out]
            go_wp2_with (go_at_call 9; refine C9.out.mono ?_; rintro e w9 ⟨rfl, hs⟩)
            go_roundg q.length
            case measure => exact HGK
            case rel =>
              obtain ⟨d6, h6⟩ := HR5.out.step hs
              exact Lib.hid ⟨_, d6, h6, by rw [HPP.out]; rfl, by rw [HPP.out]; exact HLL.out, HS.out⟩
      · have hd' : decide (x0.due ≤ s1.now) = false := decide_eq_false hd
        have HD := Lib.hid hd
        clear hrun hg hl hpt hrel hp hv hpr hx0 r0 hn hd hB
        go_wp2
        go_quiet (fail)
        go_wp2
        refine bodyPost_end (results_none rfl _ _ _) rfl ⟨rfl, s1, HPT.out _ (.stop _ ?_), (HRun.out.below (G.bdrewN (Below.refl _ _) _)).done⟩
        intro x hx
        rw [HX0.out] at hx; cases hx
        have := HD.out; omega
end Go.Proofs.Ythmknlflgajnpaa
