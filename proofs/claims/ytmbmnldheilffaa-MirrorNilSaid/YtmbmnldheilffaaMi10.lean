/- The mirror's Holders and Put. -/
import Derived.Test.YtmbmnldheilffaaMi9
namespace Go.Proofs.Ytmbmnldheilffaa
set_option linter.unusedVariables false
set_option linter.unusedSimpArgs false
open Go.RowKit
theorem wpAnyH_listed {P : Program} {md : Region.Mode} {ops : Array Oper} {Q : Exit → Act → World → Prop} {S : World → Prop} {n : Nat} {l1 l2 : Array Bool} {a : Act} {w : World} (h : wpAnyH P md ops Q S n l1 a w) (e : l1 = l2) : wpAnyH P md ops Q S n l2 a w := e ▸ h
theorem rowR_own {w : World} {B e size n : Nat} {A : Option Addr} {m : Nat} {cs : List Value} (h : w.ownsRow B e size (.slice A n m) n cs) : RowR w A cs := fun j u hj => by
  obtain ⟨_, A', c', hv, _, _, hc⟩ := G.HasRow.of_owns h
  injection hv with h1 h2 h3
  subst h1
  exact hc j u hj
theorem holders_any (B mb : Nat) (d : MD) (k : Int) (s : ByteArray) (w : World) (h : MInv B mb d w) (hl : (holds d (k, s)).length ≤ 1000000) :
    Calls Try.prog 13 #[.pointer (some ⟨mb, 0, none⟩), .int .i64 k, .string s] w fun e w' => ∃ A c, e = .returned (.slice A (holds d (k, s)).length c) ∧ w'.ownsRow w.heap.size 9 1 (.slice A (holds d (k, s)).length c) (holds d (k, s)).length ((holds d (k, s)).flatMap cS) ∧ Below w.heap.size w w' := by
  have c1 := h.c1
  have hlt := h.lt
  have lk : (Instr.lookup 55 (.map (some d.mh)) (.agg #[.int .i64 k, .string s]) false).run Try.prog w = .ok (holdV d (k, s)) w := look_hol h (k, s) 0
  have ho := h.hold (k, s)
  obtain ⟨A0, c0, hv⟩ := owns_slice ho
  rw [hv] at lk ho
  have HC := Lib.hid (clone_str (holds d (k, s)) A0 c0 w (rowR_own ho) hl)
  clear h ho hv hl
  go_enter Try.func13, Try.ntmps13
  go_wp2_with (go_at_call 30; refine HC.out.mono ?_; rintro e w1 ⟨A, c, rfl, ho, hb⟩)
  go_ret
  exact ⟨A, c, rfl, ho, hb⟩
theorem sameB_iff (a b : Ob) : sameB a b = decide (a = b) := by
  rw [Bool.eq_iff_iff, decide_eq_true_iff]
  constructor
  · intro h
    simp only [sameB, flatB, Bool.and_eq_true, decide_eq_true_iff] at h
    cases a; cases b
    simp only at h
    obtain ⟨⟨h1, h2, h3, h4, h5, h6, h7, h8, h9, h10, h11, h12, h13, h14⟩, h15, h16, h17, h18, h19⟩ := h
    subst_vars
    rfl
  · intro h
    subst h
    simp [sameB, flatB]
/-- what a look-up of the objects answers -/
theorem look_obs {B mb : Nat} {d : MD} {w : World} (h : MInv B mb d w) (r : Ref) : (Instr.lookup 54 (.map (some d.mo)) (rv r) true).run Try.prog w = .ok (.tuple #[((M.get d.obs r).map ov).getD (.agg zob), .bool (M.get d.obs r).isSome]) w := by
  have := M.lookup_run ref_law Try.underlying54 zeroOv true r h.mobs
  rw [mapv_get] at this
  simpa using this
/-- blocks that a region reads: the mirror, an object's box -/
structure PS (mb mo mh x : Nat) (cs : Array Value) (V : World) : Prop where
  m : V.heap[mb]? = some (.cells #[.map (some mo), .map (some mh)] 57 (0, 0))
  o : V.heap[x]? = some (.cells cs 26 (0, 0))
theorem PS.below {mb mo mh x : Nat} {cs : Array Value} {V V' : World} (h : PS mb mo mh x cs V) (hb : Below V.heap.size V V') : PS mb mo mh x cs V' := ⟨(hb.block _ (Array.getElem?_eq_some_iff.1 h.m).1).trans h.m, (hb.block _ (Array.getElem?_eq_some_iff.1 h.o).1).trans h.o⟩
theorem PS.c0 {mb mo mh x : Nat} {cs : Array Value} {V : World} (h : PS mb mo mh x cs V) : V.cell? ⟨mb, 0, none⟩ = some (.map (some mo)) := by simp [World.cell?, h.m]
theorem MInv.setRow {B mb x : Nat} {d : MD} {w : World} (h : MInv B mb d w) (hx : ∀ j, Foot mb d j → j ≠ x) (ho : ∀ p ∈ d.obs, ∀ ad, hasA p.2 ad → ad.block ≠ x) (cs : Array Value) : MInv B mb d (w.setRow x cs) :=
  h.keep (by rw [size_setRow]; exact Nat.le_refl _) (fun j hj => setRow_other _ _ _ _ (hx j hj)) (fun p hp ad ha => setRow_other _ _ _ _ (ho p hp ad ha))
/-- an object is stored in the map -/
theorem put_obj {B mb x : Nat} {cs : Array Value} {d1 : MD} {V wn : World} (h : MInv B mb d1 V) (hb : Below V.heap.size V wn) (y : OV) (hok : OOk (Foot mb d1) V y) (hps : PS mb d1.mo d1.mh x cs V) :
    ∃ ob, (Instr.mapUpdate 54 (.map (some d1.mo)) (rv (refOf y.o)) (ov y)).run Try.prog wn = .ok () (M.upd wn d1.mo ob) ∧ MStep B mb d1 V { d1 with obs := M.put d1.obs (refOf y.o) y } (M.upd wn d1.mo ob) ∧ PS mb d1.mo d1.mh x cs (M.upd wn d1.mo ob) := by
  have hm := h.mobs
  have h1 := h.below hb
  obtain ⟨ob, hob⟩ := M.update_run ref_law Try.underlying54 (refOf y.o) (ov y) h1.mobs
  obtain ⟨r1, r2⟩ := hob wn rfl
  refine ⟨ob, r1, (MStep.below h hb).trans (h1.putob y (hok.below hb) ⟨rfl, rfl, rfl, by rw [M.upd_size]; exact Nat.le_refl _, fun j _ hj => M.upd_other _ _ _ j hj⟩ r2), ?_, ?_⟩
  · exact (M.upd_other _ _ _ _ (map_not_cells h.cells h.mobs)).trans (hps.below hb).m
  · exact (M.upd_other _ _ _ _ (map_not_cells hps.o h.mobs)).trans (hps.below hb).o
set_option maxRecDepth 100000 in
set_option maxHeartbeats 4000000 in
theorem put_any (B mb : Nat) (d : MD) (L : List Ob) (o : Ob) (f l c p i : Sl) (w : World) (h : MInv B mb d w) (hR : MR d L) (hok : OOk (Foot mb d) w ⟨o, f, l, c, p, i⟩) (hsz : L.length ≤ 800000) :
    Calls Try.prog 8 #[.pointer (some ⟨mb, 0, none⟩), .agg (oc o f l c p i)] w fun e w' => e = .returned (.bool (!decide (find L (refOf o) = some o))) ∧ ∃ d', MStep B mb d w d' w' ∧ MR d' (putL o L) := by
  obtain ⟨x, hx⟩ : ∃ x, x = w.heap.size := ⟨_, rfl⟩
  obtain ⟨wx, hwx⟩ : ∃ wx, wx = w.alloc (.cells (oc o f l c p i) 26) := ⟨_, rfl⟩
  obtain ⟨W0, hW0⟩ : ∃ W0, W0 = wx.drew := ⟨_, rfl⟩
  have b0 : Below w.heap.size w W0 := by rw [hW0, hwx]; exact G.bdrew (bel_alloc _ _)
  have x0 : W0.heap[x]? = some (.cells (oc o f l c p i) 26 (0, 0)) := by rw [hW0, hwx, hx]; exact G.heap_new _ _
  have hI0 := h.below b0
  have hr : RowsR w o f l c p i := hok.rows
  have hs : Sz5 o := hok.sz
  have hr0 := hr.below b0
  have HOKA := Lib.hid (hok.below b0)
  have hget := hR.obs (refOf o)
  have hxf : ∀ j, Foot mb d j → j ≠ x := fun j hj e => by have := h.foot_lt hj; omega
  have hxo : ∀ p ∈ d.obs, ∀ ad, hasA p.2 ad → ad.block ≠ x := fun p hp ad ha e => by have := ((h.objs p hp).off ad ha).1; omega
  have HXF0 := Lib.hid hxf
  have HXO0 := Lib.hid hxo
  have HI0 := Lib.hid hI0
  have HX0 := Lib.hid x0
  have HXL := Lib.hid (Array.getElem?_eq_some_iff.1 x0).1
  have HB0 := Lib.hid b0
  have HW0 := Lib.hid hW0
  have HWX := Lib.hid hwx
  have HR := Lib.hid hR
  have HRW := Lib.hid hr0
  have HS := Lib.hid hs
  have HSZ := Lib.hid hsz
  have HI := Lib.hid h
  have HXW := Lib.hid hx
  have hmb := h.lt
  have HEND := Lib.hid (show ∀ (V8 V9 w10 w11 : World) (d1 d3 : MD) (f' l' c' p' i' : Sl), MStep B mb d W0 d1 V8 → Fr (fun j => j = x) V8 V9 → MStep B mb d1 V9 { d1 with obs := M.put d1.obs (refOf o) ⟨o, f', l', c', p', i'⟩ } w10 → MStep B mb { d1 with obs := M.put d1.obs (refOf o) ⟨o, f', l', c', p', i'⟩ } w10 d3 w11 →
      (d3.obs = M.put d1.obs (refOf o) ⟨o, f', l', c', p', i'⟩ ∧ d3.mo = d1.mo ∧ d3.mh = d1.mh) → (∀ k : TK, holds d3 k = if inT o.kind (txts o) k then insN o.name (holds { d1 with obs := M.put d1.obs (refOf o) ⟨o, f', l', c', p', i'⟩ } k) else holds { d1 with obs := M.put d1.obs (refOf o) ⟨o, f', l', c', p', i'⟩ } k) → d1.obs = d.obs → (∀ k : TK, holds d1 k = names (delL (refOf o) L) k.1 k.2) →
      ∃ d', MStep B mb d w d' w11 ∧ MR d' (putL o L) from fun V8 V9 w10 w11 d1 d3 f' l' c' p' i' s1 f9 s2 s3 e3 h3 eo hh => by
    refine ⟨d3, ?_, ?_⟩
    · have t := s2.trans s3
      refine ⟨t.inv, fun j hj => ?_, ?_⟩
      · rcases t.foot j hj with h1 | h1
        · rcases s1.foot j h1 with h2 | h2
          · exact .inl h2
          · exact .inr (Nat.le_trans b0.size h2)
        · exact .inr (Nat.le_trans b0.size (Nat.le_trans s1.fr.size (Nat.le_trans f9.size h1)))
      · have a : Fr (Foot mb d) w V8 := (Fr.of_below b0).trans s1.fr (fun _ hj => .inl hj)
        have b : Fr (Foot mb d) w V9 := a.trans f9 (fun j hj => .inr (by omega))
        refine b.trans t.fr (fun j hj => ?_)
        rcases s1.foot j hj with h2 | h2
        · exact .inl h2
        · exact .inr (Nat.le_trans b0.size h2)
    · refine MR.put (d := d) (d' := d3) hR.srt (x := ⟨o, f', l', c', p', i'⟩) (by rw [e3.1, eo]) hR.obs hR.len ?_
      exact hol_ins (hR.srt.del _) hh (by rw [find_delL hR.srt, if_pos rfl]) h3)
  cases hg : M.get d.obs (refOf o) with
  | none =>
    rw [hg] at hget
    have hfn : find L (refOf o) = none := hget.symm
    have hres : (!decide (find L (refOf o) = some o)) = true := by rw [hfn]; rfl
    have LKP := Lib.hid (show ∀ V, Below W0.heap.size W0 V → (Instr.lookup 54 (.map (some d.mo)) (rv (refOf o)) true).run Try.prog V = .ok (.tuple #[.agg zob, .bool false]) V from fun V hV => by
      have := look_obs (hI0.below hV) (refOf o)
      rw [hg] at this
      exact this)
    have HH1 := Lib.hid (show ∀ k : TK, holds d k = names (delL (refOf o) L) k.1 k.2 from fun k => by rw [delL_none hfn]; exact hR.hol k)
    rw [hres]
    clear hres hg hget hfn h hR hok hr hs hsz b0 x0 hI0 hr0 hxf hxo hW0 hwx
    go_enter Try.func8, Try.ntmps8
    go_upto_region 3 with (fail)
    rw [← HWX.out, ← hx]
    clear hx
    have key3 : ∀ (V : World) (wb : Nat), Hid (Below W0.heap.size W0 V ∧ W0.heap.size ≤ wb ∧ V.heap[wb]? = some (.cells zob 26 (0, 0))) → (?T3 : World → Nat → Prop) V wb := ?later3
    refine wp_region_held_drew (S := fun V => Below W0.heap.size W0 V) (by kernel_rfl) (by rw [← HW0.out]; exact Below.refl _ _) (fun hS0 => ?_)
    rw [← HW0.out] at hS0 ⊢
    refine tk 0 10 (.pointer (some ⟨mb, 0, none⟩)) ?_
    try simp only [s1, s2, s3]
    refine tk 1 11 (.pointer (some ⟨mb, 0, none⟩)) ?_
    try simp only [s1, s2, s3]
    refine tk 2 12 (.pointer (some ⟨mb, 0, none⟩)) ?_
    try simp only [s1, s2, s3]
    refine tk 3 13 (.map (some d.mo)) ?_ (hv := by (intro V hV; have hc := (HI0.out.below hV).c0; clear hV; go_simp; try rfl))
    try simp only [s1, s2, s3]
    refine tk 4 14 (.agg (oc o f l c p i)) ?_ (hv := by exact load_row_yields 26 (.tmp 3) rfl x rfl 26 (oc o f l c p i) (0, 0) _ (fun V hV => (hV.block x HXL.out).trans HX0.out) Try.underlying26 rfl size32)
    try simp only [s1, s2, s3]
    refine wpAnyH_ready (rs := [5, 10]) (by kernel_rfl) (by simp) ?_
    refine AllReadyH.cons rfl (fun K hK => ?_) ?_
    · rw [if_pos (by rfl)]
      go_simp
      go_at_call 23
      refine (refOf_any o f l c p i _).mono ?_
      rintro e wr1 ⟨rfl, hb⟩
      dsimp only
      refine hK.out _ _ (by first | exact G.bthen hHeld hb | exact G.bthen hS0 hb) (fun hHeld => ?_)
      clear hK K
      try simp only [Act.put, s1, s2, s3]
      refine tk 6 16 (.tuple #[.agg zob, .bool false]) ?_ (hv := by exact fun V hV => lookup_yields 54 (.tmp 13) (.tmp 15) true rfl rfl rfl (LKP.out V hV))
      try simp only [s1, s2, s3]
      refine tk 7 9 (.tuple #[.agg zob, .bool false]) ?_
      try simp only [s1, s2, s3]
      refine tk 8 17 (.agg zob) ?_
      try simp only [s1, s2, s3]
      refine tk 9 18 (.bool false) ?_
      try simp only [s1, s2, s3]
      refine wpAnyH_ready (rs := [10]) (by kernel_rfl) (by simp) ?_
      refine AllReadyH.cons rfl (fun K hK => ?_) ?_
      · rw [if_pos (by rfl)]
        go_simp
        refine hK.out _ _ (by first | exact G.bthen hHeld (bel_alloc _ _) | exact G.bthen hS0 (bel_alloc _ _)) (fun hHeld => ?_)
        clear hK K
        try simp only [Act.put, s1, s2, s3]
        repeat clear hHeld
        clear hS0
        first | (obtain ⟨wb, hwb⟩ : ∃ wb, wb = wr1.heap.size := ⟨_, rfl⟩; have HQ := Lib.hid (show Below W0.heap.size W0 (wr1.alloc (.cells zob 26)) ∧ W0.heap.size ≤ wb ∧ (wr1.alloc (.cells zob 26)).heap[wb]? = some (.cells zob 26 (0, 0)) from ⟨G.bthen hb (bel_alloc _ _), by rw [hwb]; exact hb.size, by rw [hwb]; exact G.heap_new _ _⟩); rw [← hwb]; clear hwb; generalize World.alloc _ _ = VV at HQ ⊢; exact key3 _ _ HQ) | (have hbA := bel_alloc W0 (.cells zob 26); have HQ := Lib.hid (show Below W0.heap.size W0 wr4 ∧ W0.heap.size ≤ W0.heap.size ∧ wr4.heap[W0.heap.size]? = some (.cells zob 26 (0, 0)) from ⟨G.bthen hbA hb, Nat.le_refl _, (hb.block _ (by simp)).trans (G.heap_new _ _)⟩); exact key3 _ _ HQ)
      exact AllReadyH.nil
    refine AllReadyH.cons rfl (fun K hK => ?_) ?_
    · rw [if_pos (by rfl)]
      go_simp
      refine hK.out _ _ (by first | exact G.bthen hHeld (bel_alloc _ _) | exact G.bthen hS0 (bel_alloc _ _)) (fun hHeld => ?_)
      clear hK K
      try simp only [Act.put, s1, s2, s3]
      refine wpAnyH_ready (rs := [5]) (by kernel_rfl) (by simp) ?_
      refine AllReadyH.cons rfl (fun K hK => ?_) ?_
      · rw [if_pos (by rfl)]
        go_simp
        go_at_call 23
        refine (refOf_any o f l c p i _).mono ?_
        rintro e wr4 ⟨rfl, hb⟩
        dsimp only
        refine hK.out _ _ (by first | exact G.bthen hHeld hb | exact G.bthen hS0 hb) (fun hHeld => ?_)
        clear hK K
        try simp only [Act.put, s1, s2, s3]
        refine tk 6 16 (.tuple #[.agg zob, .bool false]) ?_ (hv := by exact fun V hV => lookup_yields 54 (.tmp 13) (.tmp 15) true rfl rfl rfl (LKP.out V hV))
        try simp only [s1, s2, s3]
        refine tk 7 9 (.tuple #[.agg zob, .bool false]) ?_
        try simp only [s1, s2, s3]
        refine tk 8 17 (.agg zob) ?_
        try simp only [s1, s2, s3]
        refine tk 9 18 (.bool false) ?_
        try simp only [s1, s2, s3]
        repeat clear hHeld
        clear hS0
        first | (obtain ⟨wb, hwb⟩ : ∃ wb, wb = wr1.heap.size := ⟨_, rfl⟩; have HQ := Lib.hid (show Below W0.heap.size W0 (wr1.alloc (.cells zob 26)) ∧ W0.heap.size ≤ wb ∧ (wr1.alloc (.cells zob 26)).heap[wb]? = some (.cells zob 26 (0, 0)) from ⟨G.bthen hb (bel_alloc _ _), by rw [hwb]; exact hb.size, by rw [hwb]; exact G.heap_new _ _⟩); rw [← hwb]; clear hwb; generalize World.alloc _ _ = VV at HQ ⊢; exact key3 _ _ HQ) | (have hbA := bel_alloc W0 (.cells zob 26); have HQ := Lib.hid (show Below W0.heap.size W0 wr4 ∧ W0.heap.size ≤ W0.heap.size ∧ wr4.heap[W0.heap.size]? = some (.cells zob 26 (0, 0)) from ⟨G.bthen hbA hb, Nat.le_refl _, (hb.block _ (by simp)).trans (G.heap_new _ _)⟩); exact key3 _ _ HQ)
      exact AllReadyH.nil
    exact AllReadyH.nil
    case later3 =>
    intro V wb HQ
    try clear hS0
    have key3b : ∀ V3 : World, Hid (Below W0.heap.size W0 V3 ∧ V3.heap[wb]? = some (.cells (zob) 26 (0, 0))) → (?T3b : World → Prop) V3 := ?later3b
    refine wpAnyH_ready (rs := [11]) (by kernel_rfl) (by simp) ?_
    refine AllReadyH.cons rfl (fun K hK => ?_) ?_
    · rw [if_pos (by rfl)]
      refine wp_store_row 26 (.tmp 5) (.tmp 17) rfl wb (zob) (by go_simp; try rfl) (by go_simp; try rfl) 26 _ HQ.out.2.2 size32 rfl (by first | exact oc_one _ _ _ _ _ _ | exact zob_one) ?_
      have HQ2 := Lib.hid (show Below W0.heap.size W0 (V.setRow wb (zob)) ∧ (V.setRow wb (zob)).heap[wb]? = some (.cells (zob) 26 (0, 0)) from ⟨HQ.out.1.trans ⟨rfl, rfl, rfl, by rw [size_setRow]; exact Nat.le_refl _, fun j hj => setRow_other _ _ _ _ (by have := HQ.out.2.1; omega)⟩, setRow_heap _ _ _ _ _ _ HQ.out.2.2⟩)
      generalize V.setRow wb (zob) = V3 at HQ2 ⊢
      refine hK.out _ _ (HQ2.out.1) (fun hHeld => ?_)
      clear hK K
      try simp only [Act.put, s1, s2, s3]
      refine tk 12 6 (.bool false) ?_
      try simp only [s1, s2, s3]
      refine wpAnyH_done (by kernel_rfl) ?_ _
      repeat clear hHeld
      exact key3b _ HQ2
    exact AllReadyH.nil
    case later3b =>
    intro V3 HQ3
    try clear hS0
    go_upto_region 8 with (fail)
    obtain ⟨d1, hd1⟩ : ∃ d1, d1 = d := ⟨_, rfl⟩
    obtain ⟨V8, hV8⟩ : ∃ V8, V8 = V3 := ⟨_, rfl⟩
    rw [← hV8]
    have hQ := HQ3.out
    rw [← hV8] at hQ
    have HI1 := Lib.hid (show MInv B mb d1 V8 by rw [hd1]; exact HI0.out.below hQ.1)
    have HST := Lib.hid (show MStep B mb d W0 d1 V8 by rw [hd1]; exact MStep.below HI0.out hQ.1)
    have HX8 := Lib.hid ((hQ.1.block x HXL.out).trans HX0.out)
    have HCL := Lib.hid (oclone_any o f l c p i V8 (HRW.out.below hQ.1) HS.out)
    have HXF := Lib.hid (show ∀ j, Foot mb d1 j → j ≠ x by rw [hd1]; exact HXF0.out)
    have HXO := Lib.hid (show ∀ p ∈ d1.obs, ∀ ad, hasA p.2 ad → ad.block ≠ x by rw [hd1]; exact HXO0.out)
    have HOB1 := Lib.hid (show d1.obs = d.obs by rw [hd1])
    rw [← hd1] at HH1
    clear hd1 hV8 hQ
    go_upto_region 9 with (first | refine wpList_load_row rfl 26 (.tmp 3) rfl x rfl 26 _ (0, 0) _ HX8.out Try.underlying26 rfl size32 ?_ | refine wpList_store_row rfl 26 (.tmp 3) (.tmp 30) rfl x (oc o f' l' c' p' i') rfl rfl 26 _ HX8b.out size32 rfl (oc_one _ _ _ _ _ _) ?_ | (go_at_call 22; refine HCL.out.mono ?_; rintro e w8 ⟨f', l', c', p', i', rfl, ho8, hb8⟩; have HX8b := Lib.hid ((hb8.block x (Array.getElem?_eq_some_iff.1 HX8.out).1).trans HX8.out); have HO8 := Lib.hid ho8; have HB8 := Lib.hid hb8; clear ho8 hb8))
    have h8 := HI1.out.below HB8.out
    have hxlt : x < V8.heap.size := (Array.getElem?_eq_some_iff.1 HX8.out).1
    obtain ⟨V9, hV9⟩ : ∃ V9, V9 = w8.setRow x (oc o f' l' c' p' i') := ⟨_, rfl⟩
    have h9 : MInv B mb d1 V9 := by rw [hV9]; exact h8.setRow (fun j hj e => HXF.out j hj e) (fun p hp ad ha e => HXO.out p hp ad ha e) _
    have hok9 : OOk (Foot mb d1) V9 ⟨o, f', l', c', p', i'⟩ := by
      refine OOk.made (w := V8) ?_ HS.out (fun j hj => HI1.out.foot_lt hj)
      rw [hV9]
      exact ⟨owns_row HO8.out.fr hxlt _, owns_row HO8.out.lr hxlt _, owns_row HO8.out.cr hxlt _, owns_row HO8.out.pr hxlt _, owns_row HO8.out.ir hxlt _⟩
    have hx9 : V9.heap[x]? = some (.cells (oc o f' l' c' p' i') 26 (0, 0)) := by rw [hV9]; exact setRow_heap _ _ _ _ _ _ HX8b.out
    have fr9 : Fr (fun j => j = x) V8 V9 := by
      rw [hV9]
      exact ⟨HB8.out.os, HB8.out.tape, HB8.out.output, by rw [size_setRow]; exact HB8.out.size, fun j hj hne => (setRow_other _ _ _ _ hne).trans (HB8.out.block j hj)⟩
    have H9 := Lib.hid h9
    have HOK := Lib.hid hok9
    have S9 := Lib.hid (show PS mb d1.mo d1.mh x (oc o f' l' c' p' i') V9 from ⟨h9.cells, hx9⟩)
    have F9 := Lib.hid fr9
    have HV9 := Lib.hid hV9
    rw [← hV9]
    clear h8 h9 hok9 hx9 fr9 hV9 hxlt
    have key9 : ∀ (w10 : World), Hid (PS mb d1.mo d1.mh x (oc o f' l' c' p' i') w10) → Hid (MStep B mb d1 V9 { d1 with obs := M.put d1.obs (refOf o) ⟨o, f', l', c', p', i'⟩ } w10) → (?T9 : World → Prop) w10 := ?later9
    refine wp_region_held_drew (S := PS mb d1.mo d1.mh x (oc o f' l' c' p' i')) (by kernel_rfl) (S9.out.below (G.bdrew (Below.refl _ _))) (fun hS0 => ?_)
    refine tk 0 31 (.pointer (some ⟨mb, 0, none⟩)) ?_
    try simp only [s1, s2, s3]
    refine tk 1 32 (.pointer (some ⟨mb, 0, none⟩)) ?_
    try simp only [s1, s2, s3]
    refine tk 2 33 (.pointer (some ⟨mb, 0, none⟩)) ?_
    try simp only [s1, s2, s3]
    refine tk 3 34 (.map (some d1.mo)) ?_ (hv := by (intro V hV; have hc := hV.c0; clear hV; go_simp; try rfl))
    try simp only [s1, s2, s3]
    refine tk 4 35 (.agg (oc o f' l' c' p' i')) ?_ (hv := by exact load_row_yields 26 (.tmp 3) rfl x rfl 26 (oc o f' l' c' p' i') (0, 0) _ (fun V hV => hV.o) Try.underlying26 rfl size32)
    try simp only [s1, s2, s3]
    refine tk 6 37 (.agg (oc o f' l' c' p' i')) ?_ (hv := by exact load_row_yields 26 (.tmp 3) rfl x rfl 26 (oc o f' l' c' p' i') (0, 0) _ (fun V hV => hV.o) Try.underlying26 rfl size32)
    try simp only [s1, s2, s3]
    refine wpAnyH_ready (rs := [5]) (by kernel_rfl) (by simp) ?_
    refine AllReadyH.cons rfl (fun K hK => ?_) ?_
    · rw [if_pos (by rfl)]
      go_simp
      go_at_call 23
      refine (refOf_any o f' l' c' p' i' _).mono ?_
      rintro e wr1 ⟨rfl, hbr⟩
      dsimp only
      refine hK.out _ _ (by first | exact hHeld.below hbr | exact hS0.below hbr) (fun hHeld => ?_)
      clear hK K
      try simp only [Act.put, s1, s2, s3]
      refine wpAnyH_ready (rs := [7]) (by kernel_rfl) (by simp) ?_
      refine AllReadyH.cons rfl (fun K hK => ?_) ?_
      · rw [if_pos (by rfl)]
        obtain ⟨ob, r1, R2, i7⟩ := put_obj H9.out (Below.trans (G.bdrew (Below.refl _ _)) hbr) ⟨o, f', l', c', p', i'⟩ HOK.out S9.out
        refine wpo_mapUpdate 54 (.tmp 34) (.tmp 36) (.tmp 37) rfl rfl rfl rfl rfl r1 ?_
        have I7 := Lib.hid i7
        have R7 := Lib.hid R2
        clear r1 R2 i7
        generalize M.upd _ _ _ = w10 at I7 R7 ⊢
        refine hK.out _ _ (I7.out) (fun hHeld => ?_)
        clear hK K
        try simp only [Act.put, s1, s2, s3]
        refine wpAnyH_done (by kernel_rfl) ?_ _
        repeat clear hHeld
        clear hS0
        exact key9 _ I7 R7
      exact AllReadyH.nil
    exact AllReadyH.nil
    case later9 =>
    intro w10 I10 R10
    try clear hS0
    have hrows : RowsR w10 o f' l' c' p' i' := (R10.out.inv.objs (refOf o, ⟨o, f', l', c', p', i'⟩) (get_mem (by show M.get (M.put d1.obs (refOf o) _) (refOf o) = _; rw [M.get_put, if_pos rfl]))).rows
    have HIX := Lib.hid (index_any B mb { d1 with obs := M.put d1.obs (refOf o) ⟨o, f', l', c', p', i'⟩ } o f' l' c' p' i' w10 R10.out.inv hrows HS.out (fun k => by show Rise (holds d1 k); rw [HH1.out]; exact names_rise (HR.out.srt.del _) _ _) (fun s _ => MR.hasnt HH1.out (by rw [find_delL HR.out.srt, if_pos rfl]) s) (fun k => by show (holds d1 k).length ≤ 900000; rw [HH1.out]; have := names_len (delL (refOf o) L) k.1 k.2; have := List.length_filter_le (fun x => !decide (refOf x = refOf o)) L; have := HSZ.out; unfold delL at *; omega))
    clear hrows
    go_wp2_with (first | refine wpList_load_row rfl 26 (.tmp 3) rfl x rfl 26 _ (0, 0) _ I10.out.o Try.underlying26 rfl size32 ?_ | (go_at_call 26; refine HIX.out.mono ?_; rintro e w11 ⟨rfl, d3, st3, same3, hol3⟩))
    go_ret
    exact ⟨rfl, HEND.out V8 V9 w10 w11 d1 d3 f' l' c' p' i' HST.out F9.out R10.out st3 same3 hol3 HOB1.out HH1.out⟩
  | some y =>
    rw [hg] at hget
    have hfy : find L (refOf o) = some y.o := hget.symm
    obtain ⟨hyL, hyr⟩ := find_some hfy
    have hyok : OOk (Foot mb d) W0 y := hI0.objs _ (get_mem hg)
    have LKP := Lib.hid (show ∀ V, Below W0.heap.size W0 V → (Instr.lookup 54 (.map (some d.mo)) (rv (refOf o)) true).run Try.prog V = .ok (.tuple #[.agg (oc y.o y.f y.l y.c y.p y.i), .bool true]) V from fun V hV => by
      have := look_obs (hI0.below hV) (refOf o)
      rw [hg] at this
      exact this)
    have HYO := Lib.hid hyok
    have HYL := Lib.hid hyL
    have HYR := Lib.hid hyr
    by_cases hsame : y.o = o
    · have hres : (!decide (find L (refOf o) = some o)) = false := by rw [hfy, hsame]; simp
      have hput : putL o L = L := putL_same hR.srt (by rw [hfy, hsame])
      have HSA := Lib.hid (show sameB y.o o = true by rw [sameB_iff]; exact decide_eq_true hsame)
      rw [hres, hput]
      clear hres hput hsame hg hget hfy hyL hyr hyok h hR hok hr hs hsz b0 x0 hI0 hr0 hxf hxo hW0 hwx
      go_enter Try.func8, Try.ntmps8
      go_upto_region 3 with (fail)
      rw [← HWX.out, ← hx]
      clear hx
      have key3 : ∀ (V : World) (wb : Nat), Hid (Below W0.heap.size W0 V ∧ W0.heap.size ≤ wb ∧ V.heap[wb]? = some (.cells zob 26 (0, 0))) → (?T3s : World → Nat → Prop) V wb := ?later3s
      refine wp_region_held_drew (S := fun V => Below W0.heap.size W0 V) (by kernel_rfl) (by rw [← HW0.out]; exact Below.refl _ _) (fun hS0 => ?_)
      rw [← HW0.out] at hS0 ⊢
      refine tk 0 10 (.pointer (some ⟨mb, 0, none⟩)) ?_
      try simp only [s1, s2, s3]
      refine tk 1 11 (.pointer (some ⟨mb, 0, none⟩)) ?_
      try simp only [s1, s2, s3]
      refine tk 2 12 (.pointer (some ⟨mb, 0, none⟩)) ?_
      try simp only [s1, s2, s3]
      refine tk 3 13 (.map (some d.mo)) ?_ (hv := by (intro V hV; have hc := (HI0.out.below hV).c0; clear hV; go_simp; try rfl))
      try simp only [s1, s2, s3]
      refine tk 4 14 (.agg (oc o f l c p i)) ?_ (hv := by exact load_row_yields 26 (.tmp 3) rfl x rfl 26 (oc o f l c p i) (0, 0) _ (fun V hV => (hV.block x HXL.out).trans HX0.out) Try.underlying26 rfl size32)
      try simp only [s1, s2, s3]
      refine wpAnyH_ready (rs := [5, 10]) (by kernel_rfl) (by simp) ?_
      refine AllReadyH.cons rfl (fun K hK => ?_) ?_
      · rw [if_pos (by rfl)]
        go_simp
        go_at_call 23
        refine (refOf_any o f l c p i _).mono ?_
        rintro e wr1 ⟨rfl, hb⟩
        dsimp only
        refine hK.out _ _ (by first | exact G.bthen hHeld hb | exact G.bthen hS0 hb) (fun hHeld => ?_)
        clear hK K
        try simp only [Act.put, s1, s2, s3]
        refine tk 6 16 (.tuple #[.agg (oc y.o y.f y.l y.c y.p y.i), .bool true]) ?_ (hv := by exact fun V hV => lookup_yields 54 (.tmp 13) (.tmp 15) true rfl rfl rfl (LKP.out V hV))
        try simp only [s1, s2, s3]
        refine tk 7 9 (.tuple #[.agg (oc y.o y.f y.l y.c y.p y.i), .bool true]) ?_
        try simp only [s1, s2, s3]
        refine tk 8 17 (.agg (oc y.o y.f y.l y.c y.p y.i)) ?_
        try simp only [s1, s2, s3]
        refine tk 9 18 (.bool true) ?_
        try simp only [s1, s2, s3]
        refine wpAnyH_ready (rs := [10]) (by kernel_rfl) (by simp) ?_
        refine AllReadyH.cons rfl (fun K hK => ?_) ?_
        · rw [if_pos (by rfl)]
          go_simp
          refine hK.out _ _ (by first | exact G.bthen hHeld (bel_alloc _ _) | exact G.bthen hS0 (bel_alloc _ _)) (fun hHeld => ?_)
          clear hK K
          try simp only [Act.put, s1, s2, s3]
          repeat clear hHeld
          clear hS0
          first | (obtain ⟨wb, hwb⟩ : ∃ wb, wb = wr1.heap.size := ⟨_, rfl⟩; have HQ := Lib.hid (show Below W0.heap.size W0 (wr1.alloc (.cells zob 26)) ∧ W0.heap.size ≤ wb ∧ (wr1.alloc (.cells zob 26)).heap[wb]? = some (.cells zob 26 (0, 0)) from ⟨G.bthen hb (bel_alloc _ _), by rw [hwb]; exact hb.size, by rw [hwb]; exact G.heap_new _ _⟩); rw [← hwb]; clear hwb; generalize World.alloc _ _ = VV at HQ ⊢; exact key3 _ _ HQ) | (have hbA := bel_alloc W0 (.cells zob 26); have HQ := Lib.hid (show Below W0.heap.size W0 wr4 ∧ W0.heap.size ≤ W0.heap.size ∧ wr4.heap[W0.heap.size]? = some (.cells zob 26 (0, 0)) from ⟨G.bthen hbA hb, Nat.le_refl _, (hb.block _ (by simp)).trans (G.heap_new _ _)⟩); exact key3 _ _ HQ)
        exact AllReadyH.nil
      refine AllReadyH.cons rfl (fun K hK => ?_) ?_
      · rw [if_pos (by rfl)]
        go_simp
        refine hK.out _ _ (by first | exact G.bthen hHeld (bel_alloc _ _) | exact G.bthen hS0 (bel_alloc _ _)) (fun hHeld => ?_)
        clear hK K
        try simp only [Act.put, s1, s2, s3]
        refine wpAnyH_ready (rs := [5]) (by kernel_rfl) (by simp) ?_
        refine AllReadyH.cons rfl (fun K hK => ?_) ?_
        · rw [if_pos (by rfl)]
          go_simp
          go_at_call 23
          refine (refOf_any o f l c p i _).mono ?_
          rintro e wr4 ⟨rfl, hb⟩
          dsimp only
          refine hK.out _ _ (by first | exact G.bthen hHeld hb | exact G.bthen hS0 hb) (fun hHeld => ?_)
          clear hK K
          try simp only [Act.put, s1, s2, s3]
          refine tk 6 16 (.tuple #[.agg (oc y.o y.f y.l y.c y.p y.i), .bool true]) ?_ (hv := by exact fun V hV => lookup_yields 54 (.tmp 13) (.tmp 15) true rfl rfl rfl (LKP.out V hV))
          try simp only [s1, s2, s3]
          refine tk 7 9 (.tuple #[.agg (oc y.o y.f y.l y.c y.p y.i), .bool true]) ?_
          try simp only [s1, s2, s3]
          refine tk 8 17 (.agg (oc y.o y.f y.l y.c y.p y.i)) ?_
          try simp only [s1, s2, s3]
          refine tk 9 18 (.bool true) ?_
          try simp only [s1, s2, s3]
          repeat clear hHeld
          clear hS0
          first | (obtain ⟨wb, hwb⟩ : ∃ wb, wb = wr1.heap.size := ⟨_, rfl⟩; have HQ := Lib.hid (show Below W0.heap.size W0 (wr1.alloc (.cells zob 26)) ∧ W0.heap.size ≤ wb ∧ (wr1.alloc (.cells zob 26)).heap[wb]? = some (.cells zob 26 (0, 0)) from ⟨G.bthen hb (bel_alloc _ _), by rw [hwb]; exact hb.size, by rw [hwb]; exact G.heap_new _ _⟩); rw [← hwb]; clear hwb; generalize World.alloc _ _ = VV at HQ ⊢; exact key3 _ _ HQ) | (have hbA := bel_alloc W0 (.cells zob 26); have HQ := Lib.hid (show Below W0.heap.size W0 wr4 ∧ W0.heap.size ≤ W0.heap.size ∧ wr4.heap[W0.heap.size]? = some (.cells zob 26 (0, 0)) from ⟨G.bthen hbA hb, Nat.le_refl _, (hb.block _ (by simp)).trans (G.heap_new _ _)⟩); exact key3 _ _ HQ)
        exact AllReadyH.nil
      exact AllReadyH.nil
      case later3s =>
      intro V wb HQ
      try clear hS0
      have key3b : ∀ V3 : World, Hid (Below W0.heap.size W0 V3 ∧ V3.heap[wb]? = some (.cells (oc y.o y.f y.l y.c y.p y.i) 26 (0, 0))) → (?T3bs : World → Prop) V3 := ?later3bs
      refine wpAnyH_ready (rs := [11]) (by kernel_rfl) (by simp) ?_
      refine AllReadyH.cons rfl (fun K hK => ?_) ?_
      · rw [if_pos (by rfl)]
        refine wp_store_row 26 (.tmp 5) (.tmp 17) rfl wb (oc y.o y.f y.l y.c y.p y.i) (by go_simp; try rfl) (by go_simp; try rfl) 26 _ HQ.out.2.2 size32 rfl (by first | exact oc_one _ _ _ _ _ _ | exact zob_one) ?_
        have HQ2 := Lib.hid (show Below W0.heap.size W0 (V.setRow wb (oc y.o y.f y.l y.c y.p y.i)) ∧ (V.setRow wb (oc y.o y.f y.l y.c y.p y.i)).heap[wb]? = some (.cells (oc y.o y.f y.l y.c y.p y.i) 26 (0, 0)) from ⟨HQ.out.1.trans ⟨rfl, rfl, rfl, by rw [size_setRow]; exact Nat.le_refl _, fun j hj => setRow_other _ _ _ _ (by have := HQ.out.2.1; omega)⟩, setRow_heap _ _ _ _ _ _ HQ.out.2.2⟩)
        generalize V.setRow wb (oc y.o y.f y.l y.c y.p y.i) = V3 at HQ2 ⊢
        refine hK.out _ _ (HQ2.out.1) (fun hHeld => ?_)
        clear hK K
        try simp only [Act.put, s1, s2, s3]
        refine tk 12 6 (.bool true) ?_
        try simp only [s1, s2, s3]
        refine wpAnyH_done (by kernel_rfl) ?_ _
        repeat clear hHeld
        exact key3b _ HQ2
      exact AllReadyH.nil
      case later3bs =>
      intro V3 HQ3
      try clear hS0
      have HSAME := Lib.hid (same_any y.o o y.f y.l y.c y.p y.i f l c p i ⟨HYO.out.sz.fins, HYO.out.sz.labels, HYO.out.sz.cidrs, HYO.out.sz.fams, HYO.out.sz.ips⟩ V3 (HYO.out.below HQ3.out.1).rows (HRW.out.below HQ3.out.1))
      rw [HSA.out] at HSAME
      have HX3 := Lib.hid ((HQ3.out.1.block x HXL.out).trans HX0.out)
      have HY3 := Lib.hid HQ3.out.2
      go_upto_region 4 with (fail)
      repeat (first | ((refine wp_load_row 26 (.tmp 5) rfl wb rfl 26 _ (0, 0) _ HY3.out Try.underlying26 rfl size32 ?_); (try simp only [Act.put, s1, s2, s3])) | ((refine wp_load_row 26 (.tmp 3) rfl x rfl 26 _ (0, 0) _ HX3.out Try.underlying26 rfl size32 ?_); (try simp only [Act.put, s1, s2, s3])) | go_values | go_skip | go_guarded | go_step)
      go_wp2_with (fail)
      refine HSAME.out.mono ?_
      rintro e w4 ⟨rfl, hb4⟩
      have HB4 := Lib.hid hb4
      clear hb4
      dsimp only
      rename_i hK
      refine hK _ _ ?_
      clear hK
      go_wp2
      go_ret
      exact ⟨rfl, d, ((MStep.below HI.out HB0.out).then HQ3.out.1).then HB4.out, HR.out⟩
    · have hres : (!decide (find L (refOf o) = some o)) = true := by rw [hfy]; simp [hsame]
      have HSA := Lib.hid (show sameB y.o o = false by rw [sameB_iff]; exact decide_eq_false hsame)
      rw [hres]
      clear hres hsame hg hget hfy hyL hyr hyok h hR hok hr hs hsz b0 x0 hI0 hr0 hxf hxo hW0 hwx
      go_enter Try.func8, Try.ntmps8
      go_upto_region 3 with (fail)
      rw [← HWX.out, ← hx]
      clear hx
      have key3 : ∀ (V : World) (wb : Nat), Hid (Below W0.heap.size W0 V ∧ W0.heap.size ≤ wb ∧ V.heap[wb]? = some (.cells zob 26 (0, 0))) → (?T3t : World → Nat → Prop) V wb := ?later3t
      refine wp_region_held_drew (S := fun V => Below W0.heap.size W0 V) (by kernel_rfl) (by rw [← HW0.out]; exact Below.refl _ _) (fun hS0 => ?_)
      rw [← HW0.out] at hS0 ⊢
      refine tk 0 10 (.pointer (some ⟨mb, 0, none⟩)) ?_
      try simp only [s1, s2, s3]
      refine tk 1 11 (.pointer (some ⟨mb, 0, none⟩)) ?_
      try simp only [s1, s2, s3]
      refine tk 2 12 (.pointer (some ⟨mb, 0, none⟩)) ?_
      try simp only [s1, s2, s3]
      refine tk 3 13 (.map (some d.mo)) ?_ (hv := by (intro V hV; have hc := (HI0.out.below hV).c0; clear hV; go_simp; try rfl))
      try simp only [s1, s2, s3]
      refine tk 4 14 (.agg (oc o f l c p i)) ?_ (hv := by exact load_row_yields 26 (.tmp 3) rfl x rfl 26 (oc o f l c p i) (0, 0) _ (fun V hV => (hV.block x HXL.out).trans HX0.out) Try.underlying26 rfl size32)
      try simp only [s1, s2, s3]
      refine wpAnyH_ready (rs := [5, 10]) (by kernel_rfl) (by simp) ?_
      refine AllReadyH.cons rfl (fun K hK => ?_) ?_
      · rw [if_pos (by rfl)]
        go_simp
        go_at_call 23
        refine (refOf_any o f l c p i _).mono ?_
        rintro e wr1 ⟨rfl, hb⟩
        dsimp only
        refine hK.out _ _ (by first | exact G.bthen hHeld hb | exact G.bthen hS0 hb) (fun hHeld => ?_)
        clear hK K
        try simp only [Act.put, s1, s2, s3]
        refine tk 6 16 (.tuple #[.agg (oc y.o y.f y.l y.c y.p y.i), .bool true]) ?_ (hv := by exact fun V hV => lookup_yields 54 (.tmp 13) (.tmp 15) true rfl rfl rfl (LKP.out V hV))
        try simp only [s1, s2, s3]
        refine tk 7 9 (.tuple #[.agg (oc y.o y.f y.l y.c y.p y.i), .bool true]) ?_
        try simp only [s1, s2, s3]
        refine tk 8 17 (.agg (oc y.o y.f y.l y.c y.p y.i)) ?_
        try simp only [s1, s2, s3]
        refine tk 9 18 (.bool true) ?_
        try simp only [s1, s2, s3]
        refine wpAnyH_ready (rs := [10]) (by kernel_rfl) (by simp) ?_
        refine AllReadyH.cons rfl (fun K hK => ?_) ?_
        · rw [if_pos (by rfl)]
          go_simp
          refine hK.out _ _ (by first | exact G.bthen hHeld (bel_alloc _ _) | exact G.bthen hS0 (bel_alloc _ _)) (fun hHeld => ?_)
          clear hK K
          try simp only [Act.put, s1, s2, s3]
          repeat clear hHeld
          clear hS0
          first | (obtain ⟨wb, hwb⟩ : ∃ wb, wb = wr1.heap.size := ⟨_, rfl⟩; have HQ := Lib.hid (show Below W0.heap.size W0 (wr1.alloc (.cells zob 26)) ∧ W0.heap.size ≤ wb ∧ (wr1.alloc (.cells zob 26)).heap[wb]? = some (.cells zob 26 (0, 0)) from ⟨G.bthen hb (bel_alloc _ _), by rw [hwb]; exact hb.size, by rw [hwb]; exact G.heap_new _ _⟩); rw [← hwb]; clear hwb; generalize World.alloc _ _ = VV at HQ ⊢; exact key3 _ _ HQ) | (have hbA := bel_alloc W0 (.cells zob 26); have HQ := Lib.hid (show Below W0.heap.size W0 wr4 ∧ W0.heap.size ≤ W0.heap.size ∧ wr4.heap[W0.heap.size]? = some (.cells zob 26 (0, 0)) from ⟨G.bthen hbA hb, Nat.le_refl _, (hb.block _ (by simp)).trans (G.heap_new _ _)⟩); exact key3 _ _ HQ)
        exact AllReadyH.nil
      refine AllReadyH.cons rfl (fun K hK => ?_) ?_
      · rw [if_pos (by rfl)]
        go_simp
        refine hK.out _ _ (by first | exact G.bthen hHeld (bel_alloc _ _) | exact G.bthen hS0 (bel_alloc _ _)) (fun hHeld => ?_)
        clear hK K
        try simp only [Act.put, s1, s2, s3]
        refine wpAnyH_ready (rs := [5]) (by kernel_rfl) (by simp) ?_
        refine AllReadyH.cons rfl (fun K hK => ?_) ?_
        · rw [if_pos (by rfl)]
          go_simp
          go_at_call 23
          refine (refOf_any o f l c p i _).mono ?_
          rintro e wr4 ⟨rfl, hb⟩
          dsimp only
          refine hK.out _ _ (by first | exact G.bthen hHeld hb | exact G.bthen hS0 hb) (fun hHeld => ?_)
          clear hK K
          try simp only [Act.put, s1, s2, s3]
          refine tk 6 16 (.tuple #[.agg (oc y.o y.f y.l y.c y.p y.i), .bool true]) ?_ (hv := by exact fun V hV => lookup_yields 54 (.tmp 13) (.tmp 15) true rfl rfl rfl (LKP.out V hV))
          try simp only [s1, s2, s3]
          refine tk 7 9 (.tuple #[.agg (oc y.o y.f y.l y.c y.p y.i), .bool true]) ?_
          try simp only [s1, s2, s3]
          refine tk 8 17 (.agg (oc y.o y.f y.l y.c y.p y.i)) ?_
          try simp only [s1, s2, s3]
          refine tk 9 18 (.bool true) ?_
          try simp only [s1, s2, s3]
          repeat clear hHeld
          clear hS0
          first | (obtain ⟨wb, hwb⟩ : ∃ wb, wb = wr1.heap.size := ⟨_, rfl⟩; have HQ := Lib.hid (show Below W0.heap.size W0 (wr1.alloc (.cells zob 26)) ∧ W0.heap.size ≤ wb ∧ (wr1.alloc (.cells zob 26)).heap[wb]? = some (.cells zob 26 (0, 0)) from ⟨G.bthen hb (bel_alloc _ _), by rw [hwb]; exact hb.size, by rw [hwb]; exact G.heap_new _ _⟩); rw [← hwb]; clear hwb; generalize World.alloc _ _ = VV at HQ ⊢; exact key3 _ _ HQ) | (have hbA := bel_alloc W0 (.cells zob 26); have HQ := Lib.hid (show Below W0.heap.size W0 wr4 ∧ W0.heap.size ≤ W0.heap.size ∧ wr4.heap[W0.heap.size]? = some (.cells zob 26 (0, 0)) from ⟨G.bthen hbA hb, Nat.le_refl _, (hb.block _ (by simp)).trans (G.heap_new _ _)⟩); exact key3 _ _ HQ)
        exact AllReadyH.nil
      exact AllReadyH.nil
      case later3t =>
      intro V wb HQ
      try clear hS0
      have key3b : ∀ V3 : World, Hid (Below W0.heap.size W0 V3 ∧ V3.heap[wb]? = some (.cells (oc y.o y.f y.l y.c y.p y.i) 26 (0, 0))) → (?T3bt : World → Prop) V3 := ?later3bt
      refine wpAnyH_ready (rs := [11]) (by kernel_rfl) (by simp) ?_
      refine AllReadyH.cons rfl (fun K hK => ?_) ?_
      · rw [if_pos (by rfl)]
        refine wp_store_row 26 (.tmp 5) (.tmp 17) rfl wb (oc y.o y.f y.l y.c y.p y.i) (by go_simp; try rfl) (by go_simp; try rfl) 26 _ HQ.out.2.2 size32 rfl (by first | exact oc_one _ _ _ _ _ _ | exact zob_one) ?_
        have HQ2 := Lib.hid (show Below W0.heap.size W0 (V.setRow wb (oc y.o y.f y.l y.c y.p y.i)) ∧ (V.setRow wb (oc y.o y.f y.l y.c y.p y.i)).heap[wb]? = some (.cells (oc y.o y.f y.l y.c y.p y.i) 26 (0, 0)) from ⟨HQ.out.1.trans ⟨rfl, rfl, rfl, by rw [size_setRow]; exact Nat.le_refl _, fun j hj => setRow_other _ _ _ _ (by have := HQ.out.2.1; omega)⟩, setRow_heap _ _ _ _ _ _ HQ.out.2.2⟩)
        generalize V.setRow wb (oc y.o y.f y.l y.c y.p y.i) = V3 at HQ2 ⊢
        refine hK.out _ _ (HQ2.out.1) (fun hHeld => ?_)
        clear hK K
        try simp only [Act.put, s1, s2, s3]
        refine tk 12 6 (.bool true) ?_
        try simp only [s1, s2, s3]
        refine wpAnyH_done (by kernel_rfl) ?_ _
        repeat clear hHeld
        exact key3b _ HQ2
      exact AllReadyH.nil
      case later3bt =>
      intro V3 HQ3
      try clear hS0
      have HSAME := Lib.hid (same_any y.o o y.f y.l y.c y.p y.i f l c p i ⟨HYO.out.sz.fins, HYO.out.sz.labels, HYO.out.sz.cidrs, HYO.out.sz.fams, HYO.out.sz.ips⟩ V3 (HYO.out.below HQ3.out.1).rows (HRW.out.below HQ3.out.1))
      rw [HSA.out] at HSAME
      have HX3 := Lib.hid ((HQ3.out.1.block x HXL.out).trans HX0.out)
      have HY3 := Lib.hid HQ3.out.2
      go_upto_region 4 with (fail)
      repeat (first | ((refine wp_load_row 26 (.tmp 5) rfl wb rfl 26 _ (0, 0) _ HY3.out Try.underlying26 rfl size32 ?_); (try simp only [Act.put, s1, s2, s3])) | ((refine wp_load_row 26 (.tmp 3) rfl x rfl 26 _ (0, 0) _ HX3.out Try.underlying26 rfl size32 ?_); (try simp only [Act.put, s1, s2, s3])) | go_values | go_skip | go_guarded | go_step)
      go_wp2_with (fail)
      refine HSAME.out.mono ?_
      rintro e w4 ⟨rfl, hb4⟩
      have hQ4 : Below W0.heap.size W0 w4 := G.bthen HQ3.out.1 hb4
      have HB4 := Lib.hid hQ4
      have HY4 := Lib.hid ((hb4.block wb (Array.getElem?_eq_some_iff.1 HQ3.out.2).1).trans HQ3.out.2)
      have HUN := Lib.hid (unindex_any B mb d y.o y.f y.l y.c y.p y.i w4 (HI0.out.below hQ4) (HYO.out.below hQ4).rows HYO.out.sz (fun s hs => HR.out.has HYL.out hs) (fun k => by have := HR.out.small k; have := HSZ.out; omega))
      clear hb4 hQ4
      dsimp only
      rename_i hK
      refine hK _ _ ?_
      clear hK
      go_upto_region 8 with (first | refine wpList_load_row rfl 26 (.tmp 5) rfl wb rfl 26 _ (0, 0) _ HY4.out Try.underlying26 rfl size32 ?_ | (go_at_call 25; refine HUN.out.mono ?_; rintro e V8 ⟨rfl, d1, st1, same1, hol1⟩; have HST1 := Lib.hid st1; have HSM1 := Lib.hid same1; have HHO1 := Lib.hid hol1; clear st1 same1 hol1))
      have HI1 := Lib.hid HST1.out.inv
      have HST := Lib.hid ((MStep.below HI0.out HB4.out).trans HST1.out)
      have HX8 := Lib.hid (((HST1.out.fr.block x (Nat.lt_of_lt_of_le HXL.out HB4.out.size) (fun hf => HXF0.out x hf rfl)).trans (HB4.out.block x HXL.out)).trans HX0.out)
      have hrow8 : RowsR V8 o f l c p i := ((HOKA.out.below HB4.out).fr HST1.out.fr (G := Foot mb d) (fun _ h => .inl h)).rows
      have HCL := Lib.hid (oclone_any o f l c p i V8 hrow8 HS.out)
      have HXF := Lib.hid (show ∀ j, Foot mb d1 j → j ≠ x from fun j hj e => by
        rcases HST.out.foot j hj with h1 | h1
        · exact HXF0.out j h1 e
        · have := HXL.out; omega)
      have HXO := Lib.hid (show ∀ p ∈ d1.obs, ∀ ad, hasA p.2 ad → ad.block ≠ x by rw [HSM1.out.1]; exact HXO0.out)
      have HOB1 := Lib.hid HSM1.out.1
      have HH1 := Lib.hid (show ∀ k : TK, holds d1 k = names (delL (refOf o) L) k.1 k.2 from fun k => by rw [← HYR.out]; exact hol_del HR.out.srt HR.out.hol HYL.out HHO1.out k)
      clear hrow8
      go_upto_region 9 with (first | refine wpList_load_row rfl 26 (.tmp 3) rfl x rfl 26 _ (0, 0) _ HX8.out Try.underlying26 rfl size32 ?_ | refine wpList_store_row rfl 26 (.tmp 3) (.tmp 30) rfl x (oc o f' l' c' p' i') rfl rfl 26 _ HX8b.out size32 rfl (oc_one _ _ _ _ _ _) ?_ | (go_at_call 22; refine HCL.out.mono ?_; rintro e w8 ⟨f', l', c', p', i', rfl, ho8, hb8⟩; have HX8b := Lib.hid ((hb8.block x (Array.getElem?_eq_some_iff.1 HX8.out).1).trans HX8.out); have HO8 := Lib.hid ho8; have HB8 := Lib.hid hb8; clear ho8 hb8))
      have h8 := HI1.out.below HB8.out
      have hxlt : x < V8.heap.size := (Array.getElem?_eq_some_iff.1 HX8.out).1
      obtain ⟨V9, hV9⟩ : ∃ V9, V9 = w8.setRow x (oc o f' l' c' p' i') := ⟨_, rfl⟩
      have h9 : MInv B mb d1 V9 := by rw [hV9]; exact h8.setRow (fun j hj e => HXF.out j hj e) (fun p hp ad ha e => HXO.out p hp ad ha e) _
      have hok9 : OOk (Foot mb d1) V9 ⟨o, f', l', c', p', i'⟩ := by
        refine OOk.made (w := V8) ?_ HS.out (fun j hj => HI1.out.foot_lt hj)
        rw [hV9]
        exact ⟨owns_row HO8.out.fr hxlt _, owns_row HO8.out.lr hxlt _, owns_row HO8.out.cr hxlt _, owns_row HO8.out.pr hxlt _, owns_row HO8.out.ir hxlt _⟩
      have hx9 : V9.heap[x]? = some (.cells (oc o f' l' c' p' i') 26 (0, 0)) := by rw [hV9]; exact setRow_heap _ _ _ _ _ _ HX8b.out
      have fr9 : Fr (fun j => j = x) V8 V9 := by
        rw [hV9]
        exact ⟨HB8.out.os, HB8.out.tape, HB8.out.output, by rw [size_setRow]; exact HB8.out.size, fun j hj hne => (setRow_other _ _ _ _ hne).trans (HB8.out.block j hj)⟩
      have H9 := Lib.hid h9
      have HOK := Lib.hid hok9
      have S9 := Lib.hid (show PS mb d1.mo d1.mh x (oc o f' l' c' p' i') V9 from ⟨h9.cells, hx9⟩)
      have F9 := Lib.hid fr9
      have HV9 := Lib.hid hV9
      rw [← hV9]
      clear h8 h9 hok9 hx9 fr9 hV9 hxlt
      have key9 : ∀ (w10 : World), Hid (PS mb d1.mo d1.mh x (oc o f' l' c' p' i') w10) → Hid (MStep B mb d1 V9 { d1 with obs := M.put d1.obs (refOf o) ⟨o, f', l', c', p', i'⟩ } w10) → (?T9t : World → Prop) w10 := ?later9t
      refine wp_region_held_drew (S := PS mb d1.mo d1.mh x (oc o f' l' c' p' i')) (by kernel_rfl) (S9.out.below (G.bdrew (Below.refl _ _))) (fun hS0 => ?_)
      refine tk 0 31 (.pointer (some ⟨mb, 0, none⟩)) ?_
      try simp only [s1, s2, s3]
      refine tk 1 32 (.pointer (some ⟨mb, 0, none⟩)) ?_
      try simp only [s1, s2, s3]
      refine tk 2 33 (.pointer (some ⟨mb, 0, none⟩)) ?_
      try simp only [s1, s2, s3]
      refine tk 3 34 (.map (some d1.mo)) ?_ (hv := by (intro V hV; have hc := hV.c0; clear hV; go_simp; try rfl))
      try simp only [s1, s2, s3]
      refine tk 4 35 (.agg (oc o f' l' c' p' i')) ?_ (hv := by exact load_row_yields 26 (.tmp 3) rfl x rfl 26 (oc o f' l' c' p' i') (0, 0) _ (fun V hV => hV.o) Try.underlying26 rfl size32)
      try simp only [s1, s2, s3]
      refine tk 6 37 (.agg (oc o f' l' c' p' i')) ?_ (hv := by exact load_row_yields 26 (.tmp 3) rfl x rfl 26 (oc o f' l' c' p' i') (0, 0) _ (fun V hV => hV.o) Try.underlying26 rfl size32)
      try simp only [s1, s2, s3]
      refine wpAnyH_ready (rs := [5]) (by kernel_rfl) (by simp) ?_
      refine AllReadyH.cons rfl (fun K hK => ?_) ?_
      · rw [if_pos (by rfl)]
        go_simp
        go_at_call 23
        refine (refOf_any o f' l' c' p' i' _).mono ?_
        rintro e wr1 ⟨rfl, hbr⟩
        dsimp only
        refine hK.out _ _ (by first | exact hHeld.below hbr | exact hS0.below hbr) (fun hHeld => ?_)
        clear hK K
        try simp only [Act.put, s1, s2, s3]
        refine wpAnyH_ready (rs := [7]) (by kernel_rfl) (by simp) ?_
        refine AllReadyH.cons rfl (fun K hK => ?_) ?_
        · rw [if_pos (by rfl)]
          obtain ⟨ob, r1, R2, i7⟩ := put_obj H9.out (Below.trans (G.bdrew (Below.refl _ _)) hbr) ⟨o, f', l', c', p', i'⟩ HOK.out S9.out
          refine wpo_mapUpdate 54 (.tmp 34) (.tmp 36) (.tmp 37) rfl rfl rfl rfl rfl r1 ?_
          have I7 := Lib.hid i7
          have R7 := Lib.hid R2
          clear r1 R2 i7
          generalize M.upd _ _ _ = w10 at I7 R7 ⊢
          refine hK.out _ _ (I7.out) (fun hHeld => ?_)
          clear hK K
          try simp only [Act.put, s1, s2, s3]
          refine wpAnyH_done (by kernel_rfl) ?_ _
          repeat clear hHeld
          clear hS0
          exact key9 _ I7 R7
        exact AllReadyH.nil
      exact AllReadyH.nil
      case later9t =>
      intro w10 I10 R10
      try clear hS0
      have hrows : RowsR w10 o f' l' c' p' i' := (R10.out.inv.objs (refOf o, ⟨o, f', l', c', p', i'⟩) (get_mem (by show M.get (M.put d1.obs (refOf o) _) (refOf o) = _; rw [M.get_put, if_pos rfl]))).rows
      have HIX := Lib.hid (index_any B mb { d1 with obs := M.put d1.obs (refOf o) ⟨o, f', l', c', p', i'⟩ } o f' l' c' p' i' w10 R10.out.inv hrows HS.out (fun k => by show Rise (holds d1 k); rw [HH1.out]; exact names_rise (HR.out.srt.del _) _ _) (fun s _ => MR.hasnt HH1.out (by rw [find_delL HR.out.srt, if_pos rfl]) s) (fun k => by show (holds d1 k).length ≤ 900000; rw [HH1.out]; have := names_len (delL (refOf o) L) k.1 k.2; have := List.length_filter_le (fun x => !decide (refOf x = refOf o)) L; have := HSZ.out; unfold delL at *; omega))
      clear hrows
      go_wp2_with (first | refine wpList_load_row rfl 26 (.tmp 3) rfl x rfl 26 _ (0, 0) _ I10.out.o Try.underlying26 rfl size32 ?_ | (go_at_call 26; refine HIX.out.mono ?_; rintro e w11 ⟨rfl, d3, st3, same3, hol3⟩))
      go_ret
      exact ⟨rfl, HEND.out V8 V9 w10 w11 d1 d3 f' l' c' p' i' HST.out F9.out R10.out st3 same3 hol3 HOB1.out HH1.out⟩
end Go.Proofs.Ytmbmnldheilffaa
