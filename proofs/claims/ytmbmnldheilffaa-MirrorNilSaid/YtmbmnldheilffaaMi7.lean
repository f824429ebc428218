/- The mirror's index: an object has its texts. -/
import Derived.Test.YtmbmnldheilffaaMw
namespace Go.Proofs.Ytmbmnldheilffaa
set_option linter.unusedVariables false
set_option linter.unusedSimpArgs false
open Go.RowKit
/-- a key of this kind, and of one of these texts -/
def inT (a : Int) (l : List ByteArray) (k : TK) : Bool := decide (k.1 = a) && l.any fun s => decide (s = k.2)
theorem inT_iff {a : Int} {l : List ByteArray} {k : TK} : inT a l k = true ↔ k.1 = a ∧ k.2 ∈ l := by simp [inT]
theorem inT_not {a : Int} {l : List ByteArray} {k : TK} (h : ¬ (k.1 = a ∧ k.2 ∈ l)) : inT a l k = false := by
  cases e : inT a l k
  · rfl
  · exact absurd (inT_iff.1 e) h
/-- the loop's state: n texts are over -/
structure IL (B mb x : Nat) (d : MD) (o : Ob) (cs : Array Value) (w1 : World) (T : List ByteArray) (n : Nat) (d1 : MD) (wr : World) : Prop where
  step : MStep B mb d w1 d1 wr
  hol : ∀ k : TK, holds d1 k = if inT o.kind (T.take n) k then insN o.name (holds d k) else holds d k
  same : d1.obs = d.obs ∧ d1.mo = d.mo ∧ d1.mh = d.mh
  box : wr.heap[x]? = some (.cells cs 26 (0, 0))
/-- one text more -/
theorem IL.next {B mb x : Nat} {d : MD} {o : Ob} {cs : Array Value} {w1 : World} {T : List ByteArray} {n : Nat} {d1 : MD} {wr : World} (h : IL B mb x d o cs w1 T n d1 wr) (hT : T.Nodup) {s : ByteArray} (hs : T[n]? = some s) {W : World} {d2 : MD} (hst : MStep B mb d1 wr d2 W) (he : d2.obs = d1.obs ∧ d2.mo = d1.mo ∧ d2.mh = d1.mh)
    (hh : ∀ k, holds d2 k = if k = (o.kind, s) then insN o.name (holds d (o.kind, s)) else holds d1 k) (hb : W.heap[x]? = some (.cells cs 26 (0, 0))) : IL B mb x d o cs w1 T (n + 1) d2 W := by
  refine ⟨h.step.trans hst, fun k => ?_, ⟨he.1.trans h.same.1, he.2.1.trans h.same.2.1, he.2.2.trans h.same.2.2⟩, hb⟩
  rw [hh]
  have ht : T.take (n + 1) = T.take n ++ [s] := by rw [List.take_add_one, hs]; rfl
  by_cases e : k = (o.kind, s)
  · subst e
    have hin : inT o.kind (T.take (n + 1)) (o.kind, s) = true := inT_iff.2 ⟨rfl, by rw [ht]; simp⟩
    rw [if_pos rfl, if_pos hin]
  · rw [if_neg e, h.hol]
    by_cases c : k.1 = o.kind ∧ k.2 ∈ T.take n
    · rw [if_pos (inT_iff.2 c), if_pos (inT_iff.2 ⟨c.1, by rw [ht]; exact List.mem_append_left _ c.2⟩)]
    · rw [inT_not c, inT_not (fun c2 => by
        rw [ht] at c2
        rcases List.mem_append.1 c2.2 with c3 | c3
        · exact c ⟨c2.1, c3⟩
        · exact e (by cases k; simp at c2 c3; rw [c2.1, c3]))]
/-- the text at hand: its row is as it was -/
theorem IL.fresh {B mb x : Nat} {d : MD} {o : Ob} {cs : Array Value} {w1 : World} {T : List ByteArray} {n : Nat} {d1 : MD} {wr : World} (h : IL B mb x d o cs w1 T n d1 wr) (hT : T.Nodup) {s : ByteArray} (hs : T[n]? = some s) : holds d1 (o.kind, s) = holds d (o.kind, s) := by
  rw [h.hol, inT_not, if_neg Bool.false_ne_true]
  rintro ⟨_, hm⟩
  obtain ⟨j, hj, e⟩ := List.mem_take_iff_getElem.1 hm
  obtain ⟨hn, e2⟩ := List.getElem?_eq_some_iff.1 hs
  have := (List.getElem_inj hT).1 (e.trans e2.symm)
  omega
/-- a row that has turned is stored -/
theorem put_step {B mb : Nat} {d1 : MD} {V wn : World} (h : MInv B mb d1 V) (k : TK) (A0 : Option Addr) (c0 n0 : Nat) (hv : holdV d1 k = .slice A0 n0 c0) (A2 : Option Addr) (c2 : Nat) (l2 : List ByteArray) (o2 : wn.ownsRow B 9 1 (.slice A2 l2.length c2) l2.length (l2.flatMap cS))
    (g2 : V.grownBy wn (Value.slice A0 n0 c0).ownBlock) (f2 : ∀ j, (Value.slice A2 l2.length c2).ownBlock = some j → (Value.slice A0 n0 c0).ownBlock = some j ∨ V.heap.size ≤ j) :
    ∃ ob, (Instr.mapUpdate 55 (.map (some d1.mh)) (tv k) (.slice A2 l2.length c2)).run Try.prog wn = .ok () (M.upd wn d1.mh ob) ∧ MStep B mb d1 V { d1 with hol := M.put d1.hol k ⟨.slice A2 l2.length c2, l2⟩ } (M.upd wn d1.mh ob) ∧ ∀ j, j ≠ d1.mh → (M.upd wn d1.mh ob).heap[j]? = wn.heap[j]? := by
  have hrow : (Value.slice A0 n0 c0).ownBlock ≠ some d1.mh := fun e => by
    rw [← hv] at e
    obtain ⟨c, hc⟩ := owns_block (h.hold k) e
    exact map_not_cells hc h.mhol rfl
  have hmh : wn.heap[d1.mh]? = V.heap[d1.mh]? := g2.block _ h.mhol.lt (Ne.symm hrow)
  obtain ⟨ob, hob⟩ := M.update_run tk_law Try.underlying55 k (.slice A2 l2.length c2) (h.mhol.of_block hmh)
  obtain ⟨r1, r2⟩ := hob wn rfl
  refine ⟨ob, r1, h.puthol k _ l2 ⟨g2.os, g2.tape, g2.output, by rw [M.upd_size]; exact g2.size, fun j hj hF => ?_⟩ ?_ (by rw [hv]; exact f2) r2, fun j hj => M.upd_other _ _ _ j hj⟩
  · rw [M.upd_other _ _ _ j (fun e => hF (.inl e))]
    exact g2.block j hj (fun e => hF (.inr (by rw [hv]; exact e.symm)))
  · refine owns_kept o2 fun j hj => M.upd_other _ _ _ j (fun e => ?_)
    rcases f2 j hj with h1 | h1
    · exact hrow (by rw [h1, e])
    · have := h.mhol.lt; omega
set_option maxRecDepth 100000 in
set_option maxHeartbeats 4000000 in
theorem index_any (B mb : Nat) (d : MD) (o : Ob) (f l c p i : Sl) (w : World) (h : MInv B mb d w) (hr : RowsR w o f l c p i) (hs : Sz5 o) (hrise : ∀ k, Rise (holds d k)) (hnot : ∀ s ∈ txts o, o.name ∉ holds d (o.kind, s)) (hsz : ∀ k, (holds d k).length ≤ 900000) :
    Calls Try.prog 26 #[.pointer (some ⟨mb, 0, none⟩), .agg (oc o f l c p i)] w fun e w' => e = .returned (.tuple #[]) ∧ ∃ d', MStep B mb d w d' w' ∧ (d'.obs = d.obs ∧ d'.mo = d.mo ∧ d'.mh = d.mh) ∧ ∀ k : TK, holds d' k = if inT o.kind (txts o) k then insN o.name (holds d k) else holds d k := by
  obtain ⟨x, hx⟩ : ∃ x, x = w.heap.size := ⟨_, rfl⟩
  obtain ⟨wx, hwx⟩ : ∃ wx, wx = w.alloc (.cells (oc o f l c p i) 26) := ⟨_, rfl⟩
  have bx : Below w.heap.size w wx := by rw [hwx]; exact bel_alloc _ _
  have px : wx.heap[x]? = some (.cells (oc o f l c p i) 26 (0, 0)) := by rw [hwx, hx]; exact G.heap_new _ _
  have PX := Lib.hid px
  have BX := Lib.hid bx
  have HT := Lib.hid (texts_any o f l c p i wx (hr.below bx) hs)
  have HW := Lib.hid hwx
  have HX := Lib.hid hx
  have HI := Lib.hid h
  have HRI := Lib.hid hrise
  have HNOT := Lib.hid hnot
  have HSZ := Lib.hid hsz
  clear px bx hr hs hwx h hrise hnot hsz
  go_enter Try.func26, Try.ntmps26
  go_upto_region 1 with (fail)
  rw [← HW.out, ← hx]
  clear hx
  go_wp2_with (first | refine wpList_load_row rfl 26 (.tmp 3) rfl x rfl 26 _ (0, 0) _ PX.out Try.underlying26 rfl size32 ?_ | (go_at_call 46; refine HT.out.mono ?_; rintro e w1 ⟨T, A, ct, rfl, hT, ho, hb⟩; have HTX := Lib.hid hT; have HO := Lib.hid ho; have HB1 := Lib.hid hb; clear hT ho hb))
  have hst0 : MStep B mb d w1 d w1 := MStep.below ((HI.out.below BX.out).below HB1.out) (Below.refl _ _)
  have hx1 : w1.heap[x]? = some (.cells (oc o f l c p i) 26 (0, 0)) := (HB1.out.block x (Array.getElem?_eq_some_iff.1 PX.out).1).trans PX.out
  have HX1 := Lib.hid hx1
  have HS0 := Lib.hid hst0
  clear hx1 hst0
  go_loopw [12] (fun ii wr => ∃ n : Nat, n ≤ T.length ∧ ii = .int .i64 n ∧ Hid (∃ d1, IL B mb x d o (oc o f l c p i) w1 T n d1 wr)) (fun ii _ => T.length - (intOf ii).toNat)
  case atStart => exact ⟨0, Nat.zero_le _, rfl, Lib.hid ⟨d, HS0.out, fun k => by rw [inT_not (by simp), if_neg Bool.false_ne_true], ⟨rfl, rfl, rfl⟩, HX1.out⟩⟩
  case round =>
    obtain ⟨n, hn, rfl, H⟩ := hrel
    by_cases hnT : n < T.length
    · obtain ⟨s, hs⟩ : ∃ s, T[n]? = some s := ⟨_, List.getElem?_eq_getElem hnT⟩
      obtain ⟨d1, HL1⟩ := H.out
      have HL := Lib.hid HL1
      have hd1 := HL1.step.inv
      have HD1 := Lib.hid hd1
      obtain ⟨kb, hkb⟩ : ∃ kb, kb = wr.heap.size := ⟨_, rfl⟩
      obtain ⟨W, hW⟩ : ∃ W, W = wr.alloc (.cells #[.int .i64 o.kind, .string s] 68) := ⟨_, rfl⟩
      have bW : Below wr.heap.size wr W := by rw [hW]; exact bel_alloc _ _
      have hIS : IS mb d1.mo d1.mh x kb (oc o f l c p i) (o.kind, s) W := ⟨(bW.block _ hd1.lt).trans hd1.cells, (bW.block _ (Array.getElem?_eq_some_iff.1 HL1.box).1).trans HL1.box, by rw [hW, hkb]; exact G.heap_new _ _⟩
      have hT1 : ∀ j u, (T.flatMap cS)[j]? = some u → ∃ ad, A = some ad ∧ wr.cell? (ad.add j) = some u := by
        have hrow := G.HasRow.of_owns HO.out
        obtain ⟨_, A', c', hv, _, _, hc⟩ := hrow
        injection hv with e1 _ _
        subst e1
        intro j u hj
        obtain ⟨ad, ha, hcell⟩ := hc j u hj
        refine ⟨ad, ha, ?_⟩
        obtain ⟨q1, q2⟩ := owns_addr HO.out ha
        have hblk := HL1.step.fr.block ad.block q2 (fun hf => by have := HI.out.foot_lt hf; have := BX.out.size; omega)
        rw [← add_block ad j] at hblk
        unfold World.cell? at hcell ⊢
        rw [hblk]; exact hcell
      obtain ⟨ad, hA, e1⟩ := hT1 n (.string s) (by rw [cS_map]; simp [hs])
      obtain ⟨A0, c0, hAv⟩ := owns_slice (hd1.hold (o.kind, s))
      have hfr := HL1.fresh HTX.out.1 hs
      obtain ⟨L0, hL0⟩ : ∃ L0, L0 = holds d1 (o.kind, s) := ⟨_, rfl⟩
      rw [← hL0] at hAv
      have hsT : s ∈ txts o := (HTX.out.2.1 s).1 (List.mem_of_getElem? hs)
      have hWI := hd1.below bW
      have hown : W.ownsRow B 9 1 (.slice A0 L0.length c0) L0.length (L0.flatMap cS) := by rw [← hAv, hL0]; exact hWI.hold (o.kind, s)
      have OW := Lib.hid (show W.drew.ownsRow B 9 1 (.slice A0 L0.length c0) L0.length (L0.flatMap cS) from hown)
      have hlk : ∀ q, (Instr.lookup 55 (.map (some d1.mh)) (.agg #[.int .i64 o.kind, .string s]) false).run Try.prog (W.drewN q) = .ok (.slice A0 L0.length c0) (W.drewN q) := fun q => by rw [← hAv]; exact look_hol hWI (o.kind, s) q
      have LK := Lib.hid hlk
      have HLen := Lib.hid (show L0.length ≤ 900000 by rw [hL0, hfr]; exact HSZ.out _)
      have HRi := Lib.hid (show Rise L0 by rw [hL0, hfr]; exact HRI.out _)
      have HNi := Lib.hid (show o.name ∉ L0 by rw [hL0, hfr]; exact HNOT.out s hsT)
      have HIS := Lib.hid hIS
      have HWI := Lib.hid hWI
      have HBW := Lib.hid bW
      have HWW := Lib.hid hW
      have HKB := Lib.hid hkb
      have HL0 := Lib.hid hL0
      have HAv := Lib.hid hAv
      have HFr := Lib.hid hfr
      have HSn := Lib.hid hs
      have k0 : wr.cell? ⟨x, 0, none⟩ = some (.int .i64 o.kind) := by simp [World.cell?, HL1.box, oc]
      subst hA
      clear hIS hT1 hlk hown hWI bW hfr hL0 hAv hsT hd1 HL1 hs
      go_upto_region 5 with (fail)
      rw [← HWW.out, ← hkb]
      clear hkb hW
      have key5 : ∀ (V : World) (bb : Bool), Hid (Below W.heap.size W V ∧ V.heap = W.heap) → (?T5 : World → Bool → Prop) V bb := ?later5
      refine wp_region_held_drew (S := IS mb d1.mo d1.mh x kb (oc o f l c p i) (o.kind, s)) (by kernel_rfl) (HIS.out.keep fun _ _ _ => rfl) (fun hS0 => ?_)
      refine tk 0 21 (.pointer (some ⟨mb, 0, none⟩)) ?_
      try simp only [s1, s2, s3]
      refine tk 1 22 (.pointer (some ⟨mb, 0, none⟩)) ?_
      try simp only [s1, s2, s3]
      refine tk 2 23 (.pointer (some ⟨mb, 1, none⟩)) ?_
      try simp only [s1, s2, s3]
      refine tk 3 24 (.map (some d1.mh)) ?_ (hv := by (intro V hV; have hc := hV.c1; clear hV; go_simp; try rfl))
      try simp only [s1, s2, s3]
      refine tk 4 25 (.agg #[.int .i64 o.kind, .string s]) ?_ (hv := by (intro V hV; obtain ⟨b0, b1⟩ := hV.kc; clear hV; go_simp; try rfl))
      try simp only [s1, s2, s3]
      refine tk 6 27 (.pointer (some ⟨x, 1, none⟩)) ?_
      try simp only [s1, s2, s3]
      refine tk 7 28 (.string o.name) ?_ (hv := by (intro V hV; have hc := hV.xc 1 (.string o.name) rfl; clear hV; go_simp; try rfl))
      try simp only [s1, s2, s3]
      refine wpAnyH_ready (rs := [5]) (by kernel_rfl) (by simp) ?_
      refine AllReadyH.cons rfl (fun K hK => ?_) ?_
      · rw [if_pos (by rfl)]
        refine wpo_lookup 55 (.tmp 24) (.tmp 25) false rfl 26 rfl rfl rfl (LK.out 1) ?_
        refine hK.out _ _ (by assumption) (fun hHeld => ?_)
        clear hK K
        try simp only [Act.put, s1, s2, s3]
        refine wpAnyH_ready (rs := [8]) (by kernel_rfl) (by simp) ?_
        refine AllReadyH.cons rfl (fun K hK => ?_) ?_
        · rw [if_pos (by rfl)]
          go_simp
          go_at_call 49
          refine (search_own B L0 A0 c0 o.name _ OW.out (Nat.le_trans HLen.out (by decide)) HRi.out).mono ?_
          rintro e wn2 ⟨⟨bb, rfl⟩, q, hq⟩
          dsimp only
          refine hK.out _ _ (by rw [hq]; exact hHeld.keep (fun _ _ _ => rfl)) (fun hHeld => ?_)
          clear hK K
          have HQ := Lib.hid (show Below W.heap.size W wn2 ∧ wn2.heap = W.heap by rw [hq]; exact ⟨G.bdrewN (G.bdrew (Below.refl _ _)) _, rfl⟩)
          clear hq
          try simp only [Act.put, s1, s2, s3]
          refine tk 9 20 (.tuple #[.int .i64 (posN L0 o.name : Nat), .bool bb]) ?_
          try simp only [s1, s2, s3]
          refine tk 10 30 (.int .i64 (posN L0 o.name : Nat)) ?_
          try simp only [s1, s2, s3]
          refine tk 11 31 (.bool bb) ?_
          try simp only [s1, s2, s3]
          refine tk 12 7 (.int .i64 (posN L0 o.name : Nat)) ?_
          try simp only [s1, s2, s3]
          refine tk 13 8 (.bool bb) ?_
          try simp only [s1, s2, s3]
          refine wpAnyH_done (by kernel_rfl) ?_ _
          repeat clear hHeld
          clear hS0
          exact key5 _ bb HQ
        exact AllReadyH.nil
      exact AllReadyH.nil
      case later5 =>
      intro V bb HV
      try clear hS0
      go_upto_region 6 with (fail)
      have hV := HV.out
      have hVI : MInv B mb d1 V := HWI.out.below hV.1
      have hIS6 : IS mb d1.mo d1.mh x kb (oc o f l c p i) (o.kind, s) V.drew := HIS.out.below (G.bdrew hV.1)
      have hVd : MInv B mb d1 V.drew := hVI.below (G.bdrew (Below.refl _ _))
      obtain ⟨vb, hvb⟩ : ∃ vb, vb = V.drew.heap.size := ⟨_, rfl⟩
      obtain ⟨V6, hV6⟩ : ∃ V6, V6 = V.drew.alloc (.cells #[.string o.name] 9) := ⟨_, rfl⟩
      have b6 : Below V.drew.heap.size V.drew V6 := by rw [hV6]; exact bel_alloc _ _
      have h6 := hVd.below b6
      have i6 := hIS6.below b6
      have hown6 : V6.ownsRow B 9 1 (.slice A0 L0.length c0) L0.length (L0.flatMap cS) := by rw [← HAv.out, HL0.out]; exact h6.hold (o.kind, s)
      have hlt6 : ∀ j, (Value.slice A0 L0.length c0).ownBlock = some j → j < V.drew.heap.size := fun j hj => by
        rw [← HAv.out] at hj
        exact owns_lt (hVd.hold (o.kind, s)) hj
      have la : (Instr.lookup 55 (.map (some d1.mh)) (tv (o.kind, s)) false).run Try.prog V.drew = .ok (holdV d1 (o.kind, s)) V.drew := look_hol hVd (o.kind, s) 0
      have lb : (Instr.lookup 55 (.map (some d1.mh)) (tv (o.kind, s)) false).run Try.prog V6 = .ok (holdV d1 (o.kind, s)) V6 := look_hol h6 (o.kind, s) 0
      rw [HAv.out] at la lb
      rw [hV6] at lb
      have LA := Lib.hid la
      have LB := Lib.hid lb
      clear la lb
      have INS := Lib.hid (insert_own B (L0.flatMap cS) A0 L0.length c0 (posN L0 o.name) vb o.name V6 hown6 (flat_one cS one_S L0) (by have := HLen.out; omega) (posN_le _ _) (by have := (h6.hB).1; have := h6.lt; omega) (by rw [hV6, hvb]; exact G.heap_new _ _) (fun e => by have := hlt6 _ e; omega))
      have KP := Lib.hid (show ∀ V', V6.grownBy V' (Value.slice A0 L0.length c0).ownBlock → IS mb d1.mo d1.mh x kb (oc o f l c p i) (o.kind, s) V' from fun V' hg => i6.keep fun j hj hjj => hg.block j hj (fun e => by
        obtain ⟨cc, hcc⟩ := owns_block hown6 e.symm
        rcases hjj with rfl | rfl | rfl
        · exact cells_not hcc i6.m (by decide) rfl
        · exact cells_not hcc i6.o (by decide) rfl
        · exact cells_not hcc i6.t (by decide) rfl))
      have I6 := Lib.hid i6
      have M6 := Lib.hid h6
      have HV6 := Lib.hid hV6
      have HVB := Lib.hid hvb
      have B6 := Lib.hid ((HBW.out.trans ((show Below wr.heap.size W V.drew from (G.bdrew hV.1).mono HBW.out.size))).trans (b6.mono (Nat.le_trans HBW.out.size hV.1.size)))
      have HIS6 := Lib.hid hIS6
      clear hV hVI hIS6 hVd hV6 b6 h6 i6 hown6 hlt6
      have key6 : (?T6 : Prop) := ?later6
      refine wp_region_held_drew (S := IS mb d1.mo d1.mh x kb (oc o f l c p i) (o.kind, s)) (by kernel_rfl) HIS6.out (fun hS0 => ?_)
      refine tk 0 32 (.pointer (some ⟨mb, 0, none⟩)) ?_
      try simp only [s1, s2, s3]
      refine tk 1 33 (.pointer (some ⟨mb, 0, none⟩)) ?_
      try simp only [s1, s2, s3]
      refine tk 2 34 (.pointer (some ⟨mb, 1, none⟩)) ?_
      try simp only [s1, s2, s3]
      refine tk 3 35 (.map (some d1.mh)) ?_ (hv := by (intro V hV; have hc := hV.c1; clear hV; go_simp; try rfl))
      try simp only [s1, s2, s3]
      refine tk 4 36 (.agg #[.int .i64 o.kind, .string s]) ?_ (hv := by (intro V hV; obtain ⟨b0, b1⟩ := hV.kc; clear hV; go_simp; try rfl))
      try simp only [s1, s2, s3]
      refine tk 5 37 (.pointer (some ⟨mb, 0, none⟩)) ?_
      try simp only [s1, s2, s3]
      refine tk 6 38 (.pointer (some ⟨mb, 0, none⟩)) ?_
      try simp only [s1, s2, s3]
      refine tk 7 39 (.pointer (some ⟨mb, 1, none⟩)) ?_
      try simp only [s1, s2, s3]
      refine tk 8 40 (.map (some d1.mh)) ?_ (hv := by (intro V hV; have hc := hV.c1; clear hV; go_simp; try rfl))
      try simp only [s1, s2, s3]
      refine tk 9 41 (.agg #[.int .i64 o.kind, .string s]) ?_ (hv := by (intro V hV; obtain ⟨b0, b1⟩ := hV.kc; clear hV; go_simp; try rfl))
      try simp only [s1, s2, s3]
      refine tk 11 43 (.int .i64 (posN L0 o.name : Nat)) ?_
      try simp only [s1, s2, s3]
      refine tk 12 44 (.pointer (some ⟨x, 1, none⟩)) ?_
      try simp only [s1, s2, s3]
      refine tk 13 45 (.string o.name) ?_ (hv := by (intro V hV; have hc := hV.xc 1 (.string o.name) rfl; clear hV; go_simp; try rfl))
      try simp only [s1, s2, s3]
      refine wpAnyH_ready (rs := [10, 14]) (by kernel_rfl) (by simp) ?_
      refine AllReadyH.cons rfl (fun K hK => ?_) ?_
      · rw [if_pos (by rfl)]
        first | refine wpo_lookup 55 (.tmp 40) (.tmp 41) false rfl 42 rfl rfl rfl LA.out ?_ | refine wpo_lookup 55 (.tmp 40) (.tmp 41) false rfl 42 rfl rfl rfl LB.out ?_
        refine hK.out _ _ (by assumption) (fun hHeld => ?_)
        clear hK K
        try simp only [Act.put, s1, s2, s3]
        refine wpAnyH_ready (rs := [14]) (by kernel_rfl) (by simp) ?_
        refine AllReadyH.cons rfl (fun K hK => ?_) ?_
        · rw [if_pos (by rfl)]
          refine wp_buildS 46 45 o.name rfl rfl rfl ?_
          refine hK.out _ _ (by first | exact hHeld.below (bel_alloc _ _) | exact hS0.below (bel_alloc _ _)) (fun hHeld => ?_)
          clear hK K
          try simp only [Act.put, s1, s2, s3]
          repeat clear hHeld
          clear hS0
          exact key6
        exact AllReadyH.nil
      refine AllReadyH.cons rfl (fun K hK => ?_) ?_
      · rw [if_pos (by rfl)]
        refine wp_buildS 46 45 o.name rfl rfl rfl ?_
        refine hK.out _ _ (by first | exact hHeld.below (bel_alloc _ _) | exact hS0.below (bel_alloc _ _)) (fun hHeld => ?_)
        clear hK K
        try simp only [Act.put, s1, s2, s3]
        refine wpAnyH_ready (rs := [10]) (by kernel_rfl) (by simp) ?_
        refine AllReadyH.cons rfl (fun K hK => ?_) ?_
        · rw [if_pos (by rfl)]
          first | refine wpo_lookup 55 (.tmp 40) (.tmp 41) false rfl 42 rfl rfl rfl LA.out ?_ | refine wpo_lookup 55 (.tmp 40) (.tmp 41) false rfl 42 rfl rfl rfl LB.out ?_
          refine hK.out _ _ (by assumption) (fun hHeld => ?_)
          clear hK K
          try simp only [Act.put, s1, s2, s3]
          repeat clear hHeld
          clear hS0
          exact key6
        exact AllReadyH.nil
      exact AllReadyH.nil
      case later6 =>
      try clear hS0
      rw [← HV6.out, ← hvb]
      clear hvb
      refine wpAnyH_ready (rs := [15]) (by kernel_rfl) (by simp) ?_
      refine AllReadyH.cons rfl (fun K hK => ?_) ?_
      · rw [if_pos (by rfl)]
        go_simp
        go_at_call 50
        refine INS.out.mono ?_
        rintro e w7 ⟨A2, c2, rfl, o2, g2, f2⟩
        have G7 := Lib.hid g2
        have O7 := Lib.hid o2
        have F7 := Lib.hid f2
        clear o2 g2 f2
        dsimp only
        refine hK.out _ _ (KP.out _ G7.out) (fun hHeld => ?_)
        clear hK K
        try simp only [Act.put, s1, s2, s3]
        refine wpAnyH_ready (rs := [16]) (by kernel_rfl) (by simp) ?_
        refine AllReadyH.cons rfl (fun K hK => ?_) ?_
        · rw [if_pos (by rfl)]
          have e7 : (L0.flatMap cS).take (posN L0 o.name) ++ Value.string o.name :: (L0.flatMap cS).drop (posN L0 o.name) = (insN o.name L0).flatMap cS := by
            rw [← rise_ins HRi.out o.name HNi.out, cS_map, cS_map, List.map_append, List.map_cons, List.map_take, List.map_drop]
          have n7 : (insN o.name L0).length = L0.length + 1 := by
            rw [← rise_ins HRi.out o.name HNi.out, List.length_append, List.length_cons, List.length_take, List.length_drop]; have := posN_le L0 o.name; omega
          have o7 := O7.out
          have f7 := F7.out
          rw [e7, ← n7] at o7
          rw [← n7] at f7
          obtain ⟨ob, r1, r2, r3⟩ := put_step M6.out (o.kind, s) A0 c0 L0.length HAv.out A2 c2 (insN o.name L0) o7 G7.out f7
          rw [n7] at r1 r2
          clear o7 f7 e7
          refine wpo_mapUpdate 55 (.tmp 35) (.tmp 36) (.tmp 47) rfl rfl rfl rfl rfl r1 ?_
          have i7 := (KP.out _ G7.out).keep (V' := M.upd w7 d1.mh ob) fun j _ hj => r3 j (fun e => by
            have hm := M6.out.mhol
            rcases hj with rfl | rfl | rfl
            · exact map_not_cells I6.out.m hm e
            · exact map_not_cells I6.out.o hm e
            · exact map_not_cells I6.out.t hm e)
          have I7 := Lib.hid i7
          have R2 := Lib.hid r2
          clear r1 r2 r3 i7 n7
          generalize M.upd w7 d1.mh ob = w8 at I7 R2 ⊢
          refine hK.out _ _ (I7.out) (fun hHeld => ?_)
          clear hK K
          try simp only [Act.put, s1, s2, s3]
          refine wpAnyH_done (by kernel_rfl) ?_ _
          repeat clear hHeld
          try clear hS0
          have hTl := HTX.out.2.2
          go_wp2
          go_roundw
          case rel =>
            refine ⟨n + 1, by omega, by go_num, Lib.hid ⟨_, HL.out.next HTX.out.1 HSn.out ((MStep.below HD1.out B6.out).trans R2.out) ⟨rfl, rfl, rfl⟩ (fun k => ?_) I7.out.o⟩⟩
            rw [holds_put, ← HFr.out, ← HL0.out]
          case measure => simp [intOf]; omega
        exact AllReadyH.nil
      exact AllReadyH.nil
    · obtain rfl : n = T.length := by omega
      obtain ⟨d1, HL1⟩ := H.out
      have HL := Lib.hid HL1
      clear HL1
      go_wp2
      refine bodyPost_end (results_none rfl _ _ _) rfl ⟨rfl, d1, ((MStep.below HI.out BX.out).then HB1.out).trans HL.out.step, HL.out.same, fun k => ?_⟩
      have e : inT o.kind (T.take T.length) k = inT o.kind (txts o) k := by
        rw [List.take_length, Bool.eq_iff_iff, inT_iff, inT_iff, HTX.out.2.1]
      rw [HL.out.hol, e]
end Go.Proofs.Ytmbmnldheilffaa
