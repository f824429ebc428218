/- The mirror's unindex: an object hasn't its texts any more. -/
import Derived.Test.YtmbmnldheilffaaMi7
namespace Go.Proofs.Ytmbmnldheilffaa
set_option linter.unusedVariables false
set_option linter.unusedSimpArgs false
open Go.RowKit
theorem holdV_put (d : MD) (k : TK) (x : HV) (k' : TK) : holdV { d with hol := M.put d.hol k x } k' = if k' = k then x.v else holdV d k' := by
  unfold holdV
  simp only [M.get_put]
  split <;> rfl
/-- the loop's state: n texts are over -/
structure ILd (B mb x : Nat) (d : MD) (o : Ob) (cs : Array Value) (w1 : World) (T : List ByteArray) (n : Nat) (d1 : MD) (wr : World) : Prop where
  step : MStep B mb d w1 d1 wr
  hol : ∀ k : TK, holds d1 k = if inT o.kind (T.take n) k then (holds d k).filter (fun n => !decide (n = o.name)) else holds d k
  same : d1.obs = d.obs ∧ d1.mo = d.mo ∧ d1.mh = d.mh
  box : wr.heap[x]? = some (.cells cs 26 (0, 0))
/-- one text more -/
theorem ILd.next {B mb x : Nat} {d : MD} {o : Ob} {cs : Array Value} {w1 : World} {T : List ByteArray} {n : Nat} {d1 : MD} {wr : World} (h : ILd B mb x d o cs w1 T n d1 wr) (hT : T.Nodup) {s : ByteArray} (hs : T[n]? = some s) {W : World} {d2 : MD} (hst : MStep B mb d1 wr d2 W) (he : d2.obs = d1.obs ∧ d2.mo = d1.mo ∧ d2.mh = d1.mh)
    (hh : ∀ k, holds d2 k = if k = (o.kind, s) then (holds d (o.kind, s)).filter (fun n => !decide (n = o.name)) else holds d1 k) (hb : W.heap[x]? = some (.cells cs 26 (0, 0))) : ILd B mb x d o cs w1 T (n + 1) d2 W := by
  refine ⟨h.step.trans hst, fun k => ?_, ⟨he.1.trans h.same.1, he.2.1.trans h.same.2.1, he.2.2.trans h.same.2.2⟩, hb⟩
  rw [hh]
  have ht : T.take (n + 1) = T.take n ++ [s] := by rw [List.take_add_one, hs]; rfl
  by_cases e : k = (o.kind, s)
  · subst e
    have hin : inT o.kind (T.take (n + 1)) (o.kind, s) = true := inT_iff.2 ⟨rfl, by rw [ht]; simp⟩
    rw [if_pos rfl, if_pos hin]
  · rw [if_neg e, h.hol]
    by_cases c : k.1 = o.kind ∧ k.2 ∈ T.take n
    · rw [if_pos (inT_iff.2 c), if_pos (inT_iff.2 ⟨c.1, by rw [ht]; exact List.mem_append_left _ c.2⟩)]
    · rw [inT_not c, inT_not (fun c2 => by
        rw [ht] at c2
        rcases List.mem_append.1 c2.2 with c3 | c3
        · exact c ⟨c2.1, c3⟩
        · exact e (by cases k; simp at c2 c3; rw [c2.1, c3]))]
/-- the text at hand: its row is as it was -/
theorem ILd.fresh {B mb x : Nat} {d : MD} {o : Ob} {cs : Array Value} {w1 : World} {T : List ByteArray} {n : Nat} {d1 : MD} {wr : World} (h : ILd B mb x d o cs w1 T n d1 wr) (hT : T.Nodup) {s : ByteArray} (hs : T[n]? = some s) : holds d1 (o.kind, s) = holds d (o.kind, s) := by
  rw [h.hol, inT_not, if_neg Bool.false_ne_true]
  rintro ⟨_, hm⟩
  obtain ⟨j, hj, e⟩ := List.mem_take_iff_getElem.1 hm
  obtain ⟨hn, e2⟩ := List.getElem?_eq_some_iff.1 hs
  have := (List.getElem_inj hT).1 (e.trans e2.symm)
  omega
set_option maxRecDepth 100000 in
set_option maxHeartbeats 4000000 in
theorem unindex_any (B mb : Nat) (d : MD) (o : Ob) (f l c p i : Sl) (w : World) (h : MInv B mb d w) (hr : RowsR w o f l c p i) (hs : Sz5 o) (hin : ∀ s ∈ txts o, o.name ∈ holds d (o.kind, s)) (hsz : ∀ k, (holds d k).length ≤ 900000) :
    Calls Try.prog 25 #[.pointer (some ⟨mb, 0, none⟩), .agg (oc o f l c p i)] w fun e w' => e = .returned (.tuple #[]) ∧ ∃ d', MStep B mb d w d' w' ∧ (d'.obs = d.obs ∧ d'.mo = d.mo ∧ d'.mh = d.mh) ∧ ∀ k : TK, holds d' k = if inT o.kind (txts o) k then (holds d k).filter (fun n => !decide (n = o.name)) else holds d k := by
  obtain ⟨x, hx⟩ : ∃ x, x = w.heap.size := ⟨_, rfl⟩
  obtain ⟨wx, hwx⟩ : ∃ wx, wx = w.alloc (.cells (oc o f l c p i) 26) := ⟨_, rfl⟩
  have bx : Below w.heap.size w wx := by rw [hwx]; exact bel_alloc _ _
  have px : wx.heap[x]? = some (.cells (oc o f l c p i) 26 (0, 0)) := by rw [hwx, hx]; exact G.heap_new _ _
  have PX := Lib.hid px
  have BX := Lib.hid bx
  have HT := Lib.hid (texts_any o f l c p i wx (hr.below bx) hs)
  have HW := Lib.hid hwx
  have HX := Lib.hid hx
  have HI := Lib.hid h
  have HIN := Lib.hid hin
  have HSZ := Lib.hid hsz
  clear px bx hr hs hwx h hin hsz
  go_enter Try.func25, Try.ntmps25
  go_upto_region 1 with (fail)
  rw [← HW.out, ← hx]
  clear hx
  go_wp2_with (first | refine wpList_load_row rfl 26 (.tmp 3) rfl x rfl 26 _ (0, 0) _ PX.out Try.underlying26 rfl size32 ?_ | (go_at_call 46; refine HT.out.mono ?_; rintro e w1 ⟨T, A, ct, rfl, hT, ho, hb⟩; have HTX := Lib.hid hT; have HO := Lib.hid ho; have HB1 := Lib.hid hb; clear hT ho hb))
  have hst0 : MStep B mb d w1 d w1 := MStep.below ((HI.out.below BX.out).below HB1.out) (Below.refl _ _)
  have hx1 : w1.heap[x]? = some (.cells (oc o f l c p i) 26 (0, 0)) := (HB1.out.block x (Array.getElem?_eq_some_iff.1 PX.out).1).trans PX.out
  have HX1 := Lib.hid hx1
  have HS0 := Lib.hid hst0
  clear hx1 hst0
  go_loopw [10] (fun ii wr => ∃ n : Nat, n ≤ T.length ∧ ii = .int .i64 n ∧ Hid (∃ d1, ILd B mb x d o (oc o f l c p i) w1 T n d1 wr)) (fun ii _ => T.length - (intOf ii).toNat)
  case atStart => exact ⟨0, Nat.zero_le _, rfl, Lib.hid ⟨d, HS0.out, fun k => by rw [inT_not (by simp), if_neg Bool.false_ne_true], ⟨rfl, rfl, rfl⟩, HX1.out⟩⟩
  case round =>
    obtain ⟨n, hn, rfl, H⟩ := hrel
    by_cases hnT : n < T.length
    · obtain ⟨s, hs⟩ : ∃ s, T[n]? = some s := ⟨_, List.getElem?_eq_getElem hnT⟩
      obtain ⟨d1, HL1⟩ := H.out
      have HL := Lib.hid HL1
      have hd1 := HL1.step.inv
      have HD1 := Lib.hid hd1
      obtain ⟨kb, hkb⟩ : ∃ kb, kb = wr.heap.size := ⟨_, rfl⟩
      obtain ⟨W, hW⟩ : ∃ W, W = wr.alloc (.cells #[.int .i64 o.kind, .string s] 68) := ⟨_, rfl⟩
      have bW : Below wr.heap.size wr W := by rw [hW]; exact bel_alloc _ _
      have hIS : IS mb d1.mo d1.mh x kb (oc o f l c p i) (o.kind, s) W := ⟨(bW.block _ hd1.lt).trans hd1.cells, (bW.block _ (Array.getElem?_eq_some_iff.1 HL1.box).1).trans HL1.box, by rw [hW, hkb]; exact G.heap_new _ _⟩
      have hT1 : ∀ j u, (T.flatMap cS)[j]? = some u → ∃ ad, A = some ad ∧ wr.cell? (ad.add j) = some u := by
        have hrow := G.HasRow.of_owns HO.out
        obtain ⟨_, A', c', hv, _, _, hc⟩ := hrow
        injection hv with e1 _ _
        subst e1
        intro j u hj
        obtain ⟨ad, ha, hcell⟩ := hc j u hj
        refine ⟨ad, ha, ?_⟩
        obtain ⟨q1, q2⟩ := owns_addr HO.out ha
        have hblk := HL1.step.fr.block ad.block q2 (fun hf => by have := HI.out.foot_lt hf; have := BX.out.size; omega)
        rw [← add_block ad j] at hblk
        unfold World.cell? at hcell ⊢
        rw [hblk]; exact hcell
      obtain ⟨ad, hA, e1⟩ := hT1 n (.string s) (by rw [cS_map]; simp [hs])
      obtain ⟨A0, c0, hAv⟩ := owns_slice (hd1.hold (o.kind, s))
      have hfr := HL1.fresh HTX.out.1 hs
      obtain ⟨L0, hL0⟩ : ∃ L0, L0 = holds d1 (o.kind, s) := ⟨_, rfl⟩
      rw [← hL0] at hAv
      have hsT : s ∈ txts o := (HTX.out.2.1 s).1 (List.mem_of_getElem? hs)
      have hWI := hd1.below bW
      have hown : W.ownsRow B 9 1 (.slice A0 L0.length c0) L0.length (L0.flatMap cS) := by rw [← hAv, hL0]; exact hWI.hold (o.kind, s)
      have hlk : ∀ q, (Instr.lookup 55 (.map (some d1.mh)) (.agg #[.int .i64 o.kind, .string s]) false).run Try.prog (W.drewN q) = .ok (.slice A0 L0.length c0) (W.drewN q) := fun q => by rw [← hAv]; exact look_hol hWI (o.kind, s) q
      have LK := Lib.hid hlk
      have HLen := Lib.hid (show L0.length ≤ 900000 by rw [hL0, hfr]; exact HSZ.out _)
      have HPos := Lib.hid (show 0 < L0.length by rw [hL0, hfr]; exact List.length_pos_of_mem (HIN.out s hsT))
      have HIS := Lib.hid hIS
      have HWI := Lib.hid hWI
      have HBW := Lib.hid bW
      have HWW := Lib.hid hW
      have HKB := Lib.hid hkb
      have HL0 := Lib.hid hL0
      have HAv := Lib.hid hAv
      have HFr := Lib.hid hfr
      have HSn := Lib.hid hs
      have k0 : wr.cell? ⟨x, 0, none⟩ = some (.int .i64 o.kind) := by simp [World.cell?, HL1.box, oc]
      subst hA
      clear hIS hT1 hlk hown hWI bW hfr hL0 hAv hsT hd1 HL1 hs
      have h6 : MInv B mb d1 W.drew := HWI.out.below (G.bdrew (Below.refl _ _))
      have i6 : IS mb d1.mo d1.mh x kb (oc o f l c p i) (o.kind, s) W.drew := HIS.out.keep fun _ _ _ => rfl
      have hown6 : W.drew.ownsRow B 9 1 (.slice A0 L0.length c0) L0.length (L0.flatMap cS) := by rw [← HAv.out, HL0.out]; exact h6.hold (o.kind, s)
      have la : (Instr.lookup 55 (.map (some d1.mh)) (tv (o.kind, s)) false).run Try.prog W.drew = .ok (holdV d1 (o.kind, s)) W.drew := look_hol h6 (o.kind, s) 0
      rw [HAv.out] at la
      have LA := Lib.hid la
      obtain ⟨L2, hL2⟩ : ∃ L2, L2 = L0.filter fun n => !decide (n = o.name) := ⟨_, rfl⟩
      have del := delete_own B L0 A0 c0 x o.name W.drew hown6 (Nat.le_trans HLen.out (by decide)) HPos.out (oc o f l c p i) 26 (by decide) i6.o rfl
      rw [← hL2] at del
      have DEL := Lib.hid del
      have KP := Lib.hid (show ∀ V', W.drew.grownBy V' (Value.slice A0 L0.length c0).ownBlock → IS mb d1.mo d1.mh x kb (oc o f l c p i) (o.kind, s) V' from fun V' hg => i6.keep fun j hj hjj => hg.block j hj (fun e => by
        obtain ⟨cc, hcc⟩ := owns_block hown6 e.symm
        rcases hjj with rfl | rfl | rfl
        · exact cells_not hcc i6.m (by decide) rfl
        · exact cells_not hcc i6.o (by decide) rfl
        · exact cells_not hcc i6.t (by decide) rfl))
      have I6 := Lib.hid i6
      have M6 := Lib.hid h6
      have HL2 := Lib.hid hL2
      have HBD := Lib.hid (show Below wr.heap.size wr W.drew from G.bdrew HBW.out)
      clear h6 i6 hown6 la hL2 del
      go_upto_region 5 with (fail)
      rw [← HWW.out, ← hkb]
      clear hkb hW
      have key5 : ∀ (V : World), Hid (IS mb d1.mo d1.mh x kb (oc o f l c p i) (o.kind, s) V) → Hid (MStep B mb d1 W.drew { d1 with hol := M.put d1.hol (o.kind, s) ⟨.slice A0 L2.length c0, L2⟩ } V) → (?T5 : World → Prop) V := ?later5
      refine wp_region_held_drew (S := IS mb d1.mo d1.mh x kb (oc o f l c p i) (o.kind, s)) (by kernel_rfl) I6.out (fun hS0 => ?_)
      refine tk 0 18 (.pointer (some ⟨mb, 0, none⟩)) ?_
      try simp only [s1, s2, s3]
      refine tk 1 19 (.pointer (some ⟨mb, 0, none⟩)) ?_
      try simp only [s1, s2, s3]
      refine tk 2 20 (.pointer (some ⟨mb, 1, none⟩)) ?_
      try simp only [s1, s2, s3]
      refine tk 3 21 (.map (some d1.mh)) ?_ (hv := by (intro V hV; have hc := hV.c1; clear hV; go_simp; try rfl))
      try simp only [s1, s2, s3]
      refine tk 4 22 (.agg #[.int .i64 o.kind, .string s]) ?_ (hv := by (intro V hV; obtain ⟨b0, b1⟩ := hV.kc; clear hV; go_simp; try rfl))
      try simp only [s1, s2, s3]
      refine tk 5 23 (.pointer (some ⟨mb, 0, none⟩)) ?_
      try simp only [s1, s2, s3]
      refine tk 6 24 (.pointer (some ⟨mb, 0, none⟩)) ?_
      try simp only [s1, s2, s3]
      refine tk 7 25 (.pointer (some ⟨mb, 1, none⟩)) ?_
      try simp only [s1, s2, s3]
      refine tk 8 26 (.map (some d1.mh)) ?_ (hv := by (intro V hV; have hc := hV.c1; clear hV; go_simp; try rfl))
      try simp only [s1, s2, s3]
      refine tk 9 27 (.agg #[.int .i64 o.kind, .string s]) ?_ (hv := by (intro V hV; obtain ⟨b0, b1⟩ := hV.kc; clear hV; go_simp; try rfl))
      try simp only [s1, s2, s3]
      refine tk 11 29 (.func (.func 48) #[] #[.pointer (some ⟨x, 0, none⟩)]) ?_
      try simp only [s1, s2, s3]
      refine wpAnyH_ready (rs := [10]) (by kernel_rfl) (by simp) ?_
      refine AllReadyH.cons rfl (fun K hK => ?_) ?_
      · rw [if_pos (by rfl)]
        refine wpo_lookup 55 (.tmp 26) (.tmp 27) false rfl 28 rfl rfl rfl LA.out ?_
        refine hK.out _ _ (by assumption) (fun hHeld => ?_)
        clear hK K
        try simp only [Act.put, s1, s2, s3]
        refine wpAnyH_ready (rs := [12]) (by kernel_rfl) (by simp) ?_
        refine AllReadyH.cons rfl (fun K hK => ?_) ?_
        · rw [if_pos (by rfl)]
          go_simp
          go_at_call 47
          refine DEL.out.mono ?_
          rintro e w7 ⟨rfl, o7, g7⟩
          have G7 := Lib.hid g7
          have O7 := Lib.hid o7
          clear o7 g7
          dsimp only
          refine hK.out _ _ (KP.out _ G7.out) (fun hHeld => ?_)
          clear hK K
          try simp only [Act.put, s1, s2, s3]
          refine wpAnyH_ready (rs := [13]) (by kernel_rfl) (by simp) ?_
          refine AllReadyH.cons rfl (fun K hK => ?_) ?_
          · rw [if_pos (by rfl)]
            obtain ⟨ob, r1, r2, r3⟩ := put_step M6.out (o.kind, s) A0 c0 L0.length HAv.out A0 c0 L2 O7.out G7.out (fun j hj => .inl (by cases A0 <;> exact hj))
            refine wpo_mapUpdate 55 (.tmp 21) (.tmp 22) (.tmp 30) rfl rfl rfl rfl rfl r1 ?_
            have i7 := (KP.out _ G7.out).keep (V' := M.upd w7 d1.mh ob) fun j _ hj => r3 j (fun e => by
              have hm := M6.out.mhol
              rcases hj with rfl | rfl | rfl
              · exact map_not_cells I6.out.m hm e
              · exact map_not_cells I6.out.o hm e
              · exact map_not_cells I6.out.t hm e)
            have I7 := Lib.hid i7
            have R2 := Lib.hid r2
            clear r1 r2 r3 i7
            generalize M.upd w7 d1.mh ob = w8 at I7 R2 ⊢
            refine hK.out _ _ (I7.out) (fun hHeld => ?_)
            clear hK K
            try simp only [Act.put, s1, s2, s3]
            refine wpAnyH_done (by kernel_rfl) ?_ _
            repeat clear hHeld
            clear hS0
            exact key5 _ I7 R2
          exact AllReadyH.nil
        exact AllReadyH.nil
      exact AllReadyH.nil
      case later5 =>
      intro V I8 R8
      try clear hS0
      go_upto_region 6 with (fail)
      have lk : (Instr.lookup 55 (.map (some d1.mh)) (tv (o.kind, s)) false).run Try.prog V.drew = .ok (holdV { d1 with hol := M.put d1.hol (o.kind, s) ⟨.slice A0 L2.length c0, L2⟩ } (o.kind, s)) V.drew := look_hol R8.out.inv (o.kind, s) 1
      rw [holdV_put, if_pos rfl] at lk
      have LD := Lib.hid lk
      have hdel := M.delete_run tk_law Try.underlying55 0 (o.kind, s) R8.out.inv.mhol
      have I8' := I8.out.keep (V' := V.drew) fun _ _ _ => rfl
      replace I8 := Lib.hid I8'
      clear lk I8'
      by_cases hz : L2.length = 0
      · have hz1 : decide ((L2.length : Int) = 0) = true := by simp [hz]
        have hz2 : ((L2.length : Int) == 0) = true := by simp [hz]
        obtain ⟨od, hod⟩ := hdel
        have DR := Lib.hid (show ∀ V' : World, V' = V.drew.drew → (Builtin.delete_ #[55, 68] 0 #[.map (some d1.mh), tv (o.kind, s)]).run Try.prog V' = .ok (.tuple #[]) (M.upd V' d1.mh od) ∧ MStep B mb { d1 with hol := M.put d1.hol (o.kind, s) ⟨.slice A0 L2.length c0, L2⟩ } V { d1 with hol := M.del (M.put d1.hol (o.kind, s) ⟨.slice A0 L2.length c0, L2⟩) (o.kind, s) } (M.upd V' d1.mh od) ∧ IS mb d1.mo d1.mh x kb (oc o f l c p i) (o.kind, s) (M.upd V' d1.mh od) from fun V' hV' => by
          subst hV'
          obtain ⟨q1, q2⟩ := hod V.drew.drew rfl
          refine ⟨q1, MInv.delhol R8.out.inv (o.kind, s) ⟨rfl, rfl, rfl, by rw [M.upd_size]; exact Nat.le_refl _, fun j _ hj => M.upd_other _ _ _ j hj⟩ q2, I8.out.keep fun j _ hj => M.upd_other _ _ _ j (fun e => ?_)⟩
          have hm := R8.out.inv.mhol
          rcases hj with rfl | rfl | rfl
          · exact map_not_cells I8.out.m hm e
          · exact map_not_cells I8.out.o hm e
          · exact map_not_cells I8.out.t hm e)
        have HZ := Lib.hid hz
        clear hz hod
        have key6 : (?T6 : Prop) := ?later6
        refine wp_region_held_drew (S := fun U => U = V.drew) (by kernel_rfl) rfl (fun hS0 => ?_)
        refine tk 0 31 (.pointer (some ⟨mb, 0, none⟩)) ?_
        try simp only [s1, s2, s3]
        refine tk 1 32 (.pointer (some ⟨mb, 0, none⟩)) ?_
        try simp only [s1, s2, s3]
        refine tk 2 33 (.pointer (some ⟨mb, 1, none⟩)) ?_
        try simp only [s1, s2, s3]
        refine tk 3 34 (.map (some d1.mh)) ?_ (hv := by (intro V hV; obtain rfl := hV; have hc := I8.out.c1; go_simp; try rfl))
        try simp only [s1, s2, s3]
        refine tk 4 35 (.agg #[.int .i64 o.kind, .string s]) ?_ (hv := by (intro V hV; obtain rfl := hV; obtain ⟨b0, b1⟩ := I8.out.kc; go_simp; try rfl))
        try simp only [s1, s2, s3]
        refine tk 5 36 (.slice A0 L2.length c0) ?_ (hv := by exact fun V hV => by rw [hV]; exact lookup_yields 55 (.tmp 34) (.tmp 35) false rfl rfl rfl LD.out)
        try simp only [s1, s2, s3]
        refine tk 6 37 (.int .i64 (L2.length : Nat)) ?_
        try simp only [s1, s2, s3]
        refine tk 7 38 (.bool true) ?_
        try simp only [s1, s2, s3]
        refine wpAnyH_done (by kernel_rfl) ?_ _
        clear hS0
        exact key6
        case later6 =>
        try clear hS0
        go_upto_region 7 with (fail)
        have key7 : ∀ (U : World), Hid (IS mb d1.mo d1.mh x kb (oc o f l c p i) (o.kind, s) U) → Hid (MStep B mb { d1 with hol := M.put d1.hol (o.kind, s) ⟨.slice A0 L2.length c0, L2⟩ } V { d1 with hol := M.del (M.put d1.hol (o.kind, s) ⟨.slice A0 L2.length c0, L2⟩) (o.kind, s) } U) → (?T7 : World → Prop) U := ?later7
        refine wp_region_held_drew (S := IS mb d1.mo d1.mh x kb (oc o f l c p i) (o.kind, s)) (by kernel_rfl) (I8.out.keep fun _ _ _ => rfl) (fun hS0 => ?_)
        refine tk 0 39 (.pointer (some ⟨mb, 0, none⟩)) ?_
        try simp only [s1, s2, s3]
        refine tk 1 40 (.pointer (some ⟨mb, 0, none⟩)) ?_
        try simp only [s1, s2, s3]
        refine tk 2 41 (.pointer (some ⟨mb, 1, none⟩)) ?_
        try simp only [s1, s2, s3]
        refine tk 3 42 (.map (some d1.mh)) ?_ (hv := by (intro V hV; have hc := hV.c1; clear hV; go_simp; try rfl))
        try simp only [s1, s2, s3]
        refine tk 4 43 (.agg #[.int .i64 o.kind, .string s]) ?_ (hv := by (intro V hV; obtain ⟨b0, b1⟩ := hV.kc; clear hV; go_simp; try rfl))
        try simp only [s1, s2, s3]
        refine wpAnyH_ready (rs := [5]) (by kernel_rfl) (by simp) ?_
        refine AllReadyH.cons rfl (fun K hK => ?_) ?_
        · rw [if_pos (by rfl)]
          refine wpo_delete (.tmp 42) (.tmp 43) 55 68 rfl rfl rfl rfl (DR.out _ rfl).1 ?_
          have R9 := Lib.hid (DR.out _ rfl).2.1
          have I9 := Lib.hid (DR.out _ rfl).2.2
          generalize M.upd _ _ _ = w9 at R9 I9 ⊢
          refine hK.out _ _ (I9.out) (fun hHeld => ?_)
          clear hK K
          try simp only [Act.put, s1, s2, s3]
          refine wpAnyH_done (by kernel_rfl) ?_ _
          repeat clear hHeld
          clear hS0
          exact key7 _ I9 R9
        exact AllReadyH.nil
        case later7 =>
        intro U I9 R9
        try clear hS0
        have hTl := HTX.out.2.2
        clear hz1 hz2
        go_wp2
        go_roundw
        case rel =>
          refine ⟨n + 1, by omega, by go_num, Lib.hid ⟨_, HL.out.next HTX.out.1 HSn.out (((MStep.below HD1.out HBD.out).trans R8.out).trans R9.out) ⟨rfl, rfl, rfl⟩ (fun k => ?_) I9.out.o⟩⟩
          rw [holds_del R8.out.inv.nhol (o.kind, s) k]
          by_cases e : k = (o.kind, s)
          · rw [if_pos e, if_pos e, ← HFr.out, ← HL0.out, ← HL2.out]
            exact (List.eq_nil_of_length_eq_zero HZ.out).symm
          · rw [if_neg e, if_neg e]
            have := holds_put d1 (o.kind, s) ⟨.slice A0 L2.length c0, L2⟩ k
            rw [if_neg e] at this
            exact this
        case measure => simp [intOf]; omega
      · have hz1 : decide ((L2.length : Int) = 0) = false := decide_eq_false (by omega)
        have hz2 : ((L2.length : Int) == 0) = false := by rw [beq_eq_false_iff_ne]; omega
        clear hz hdel
        have key6 : (?T6b : Prop) := ?later6b
        refine wp_region_held_drew (S := fun U => U = V.drew) (by kernel_rfl) rfl (fun hS0 => ?_)
        refine tk 0 31 (.pointer (some ⟨mb, 0, none⟩)) ?_
        try simp only [s1, s2, s3]
        refine tk 1 32 (.pointer (some ⟨mb, 0, none⟩)) ?_
        try simp only [s1, s2, s3]
        refine tk 2 33 (.pointer (some ⟨mb, 1, none⟩)) ?_
        try simp only [s1, s2, s3]
        refine tk 3 34 (.map (some d1.mh)) ?_ (hv := by (intro V hV; obtain rfl := hV; have hc := I8.out.c1; go_simp; try rfl))
        try simp only [s1, s2, s3]
        refine tk 4 35 (.agg #[.int .i64 o.kind, .string s]) ?_ (hv := by (intro V hV; obtain rfl := hV; obtain ⟨b0, b1⟩ := I8.out.kc; go_simp; try rfl))
        try simp only [s1, s2, s3]
        refine tk 5 36 (.slice A0 L2.length c0) ?_ (hv := by exact fun V hV => by rw [hV]; exact lookup_yields 55 (.tmp 34) (.tmp 35) false rfl rfl rfl LD.out)
        try simp only [s1, s2, s3]
        refine tk 6 37 (.int .i64 (L2.length : Nat)) ?_
        try simp only [s1, s2, s3]
        refine tk 7 38 (.bool false) ?_
        try simp only [s1, s2, s3]
        refine wpAnyH_done (by kernel_rfl) ?_ _
        clear hS0
        exact key6
        case later6b =>
        try clear hS0
        have hTl := HTX.out.2.2
        clear hz1 hz2
        go_wp2
        go_roundw
        case rel =>
          refine ⟨n + 1, by omega, by go_num, Lib.hid ⟨_, HL.out.next HTX.out.1 HSn.out (((MStep.below HD1.out HBD.out).trans R8.out).then (G.bdrew (Below.refl _ _))) ⟨rfl, rfl, rfl⟩ (fun k => ?_) I8.out.o⟩⟩
          rw [holds_put, ← HFr.out, ← HL0.out, HL2.out]
        case measure => simp [intOf]; omega
    · obtain rfl : n = T.length := by omega
      obtain ⟨d1, HL1⟩ := H.out
      have HL := Lib.hid HL1
      clear HL1
      go_wp2
      refine bodyPost_end (results_none rfl _ _ _) rfl ⟨rfl, d1, ((MStep.below HI.out BX.out).then HB1.out).trans HL.out.step, HL.out.same, fun k => ?_⟩
      have e : inT o.kind (T.take T.length) k = inT o.kind (txts o) k := by
        rw [List.take_length, Bool.eq_iff_iff, inT_iff, inT_iff, HTX.out.2.1]
      rw [HL.out.hol, e]
end Go.Proofs.Ytmbmnldheilffaa
