/- Open. -/
import Derived.Test.YtdmjbdecemajpaaDoorWk3
namespace Go.Proofs.YtdmjbdecemajpaaDoor.D
set_option linter.unusedVariables false
set_option linter.unusedSimpArgs false
open Go.RowKit
/-- all files but a generation's first ones are removed -/
def remOut (g l : Int) : List Int → DS → Int × DS
  | [], s => (0, s)
  | no :: r, s => if g * 100 ≤ no ∧ no ≤ g * 100 + l then remOut g l r s else if remE s no ≠ 0 then (remE s no, remS s no) else remOut g l r (remS s no)
structure OR where
  e : Int
  s : DS
  L : Option LS
def openT (p : Int × ByteArray) (x : Sg) (r : Int × DS) : OR :=
  if r.1 ≠ 0 then ⟨r.1, r.2, none⟩ else if x.last = 0 then ⟨0, r.2, some ⟨p.1, p.2, x.recs, x.last, 0, false⟩⟩
    else if tidE r.2 (p.1 * 100 + x.last) x.good ≠ 0 then ⟨tidE r.2 (p.1 * 100 + x.last) x.good, tidS r.2 (p.1 * 100 + x.last) x.good, none⟩
    else ⟨0, tidS r.2 (p.1 * 100 + x.last) x.good, some ⟨p.1, p.2, x.recs, x.last, 0, false⟩⟩
def segs (s : DS) (p : Int × ByteArray) : Sg := segP s p.1 99 1 ⟨[], 0, 0⟩
def openP (s : DS) : OR := match newP s s.keys.reverse with
  | none => ⟨18, s, none⟩
  | some p => openT p (segs s p) (remOut p.1 (segs s p).last s.keys s)
/-- what Open hands back -/
def OpenIs (db : Nat) (w : World) (ptr : Value) (w' : World) : Option LS → Prop
  | none => ptr = .pointer none
  | some L => ∃ lb v, ptr = .pointer (some ⟨lb, 0, none⟩) ∧ LInv w.heap.size db lb L v w'
theorem segP_last (s : DS) (g : Int) : ∀ (n : Nat) (k : Int) (x : Sg), 0 ≤ x.last ∧ x.last ≤ 99 → 0 ≤ k → k + n ≤ 100 → 0 ≤ (segP s g n k x).last ∧ (segP s g n k x).last ≤ 99
  | 0, k, x, h, _, _ => h
  | n + 1, k, x, h, h1, h2 => by
    rw [segP]
    split
    · split
      · show 0 ≤ k ∧ k ≤ 99; omega
      · exact segP_last s g n (k + 1) _ (by show 0 ≤ k ∧ k ≤ 99; omega) (by omega) (by omega)
    · exact h
theorem newP_rng (s : DS) : ∀ (l : List Int) (p : Int × ByteArray), (∀ a ∈ l, 1 ≤ a) → newP s l = some p → 1 ≤ p.1 ∧ p.1 ≤ 9999
  | [], p, _, h => by cases h
  | no :: l, p, h1, h => by
    rw [newP] at h
    have hno := h1 no List.mem_cons_self
    split at h
    · exact newP_rng s l p (fun a ha => h1 a (List.mem_cons_of_mem _ ha)) h
    · split at h
      · cases h
        show 1 ≤ no / 100 ∧ no / 100 ≤ 9999
        omega
      · exact newP_rng s l p (fun a ha => h1 a (List.mem_cons_of_mem _ ha)) h
theorem keys_pos {s : DS} {k : Nat} (h : Okk s k) : ∀ a ∈ s.keys, 1 ≤ a ∧ a ≤ 1000000 := fun a ha => by
  obtain ⟨f, hf⟩ := Option.isSome_iff_exists.1 ((keys_mem a).1 ha)
  exact h.rng _ (get_mem hf)
theorem keys_len {s : DS} {k : Nat} (h : Okk s k) : s.keys.length ≤ 110 := by
  show ((s.files.map (·.1)).mergeSort leI).length ≤ _
  rw [List.length_mergeSort, List.length_map]; exact h.len
theorem owns_base_of {w : World} {B B2 e size n : Nat} {v : Value} {xs : List Value} (h : w.ownsRow B e size v n xs) (hb : ∀ j, v.ownBlock = some j → B2 ≤ j) : w.ownsRow B2 e size v n xs := by
  obtain ⟨hl, h | ⟨g, cap, cur, rfl, h1, h2⟩⟩ := h
  · exact ⟨hl, .inl h⟩
  · exact ⟨hl, .inr ⟨g, cap, cur, rfl, hb g rfl, h2⟩⟩
/-- a log that began in new blocks: what the caller sees -/
theorem WStep.out {B db m lb : Nat} {s : DS} {L : LS} {v0 : Value} {s0 : DS} {w W1 w' : World} (hd : DInv B db m s0 w) (hb : Below w.heap.size w W1) (hl : w.heap.size ≤ lb) (hv : v0.ownBlock = none) (h : WStep B db m lb v0 W1 s L w') :
    DStep B db m w s w' ∧ ∃ v', LInv w.heap.size db lb L v' w' := by
  obtain ⟨v', hw, hf, hfr⟩ := h
  refine ⟨⟨hw.t.d, hb.os ▸ hfr.os, hb.tape ▸ hfr.tape, hb.output ▸ hfr.output, Nat.le_trans hb.size hfr.size, fun j hj hn => ?_⟩, v', hw.l.cells, hl, owns_base_of hw.l.row fun j hj => ?_⟩
  · refine (hfr.block j (Nat.lt_of_lt_of_le hj hb.size) ?_).trans (hb.block j hj)
    rintro (h1 | rfl | h1)
    · exact hn h1
    · omega
    · rw [hv] at h1; cases h1
  · rcases hf j (.inr (.inr hj)) with (h1 | rfl | h1) | h1
    · exact absurd h1 (hw.apart (.inr hj))
    · exact absurd hj hw.l.off
    · rw [hv] at h1; cases h1
    · exact Nat.le_trans hb.size h1
theorem WF.disk {B db m lb : Nat} {v v1 : Value} {w w1 w2 : World} {s2 : DS} (h : WF db m lb v w v1 w1) (k : DStep B db m w1 s2 w2) : WF db m lb v w v1 w2 :=
  ⟨h.foot, h.fr.trans (k.2.wide (G := WFoot db m lb v1) fun j hj => .inl hj) h.foot⟩
theorem rem_on {s : DS} {no : Int} (hoff : s.off = false) (h : remE s no = 0) : (remS s no).off = false := by
  unfold remE synE at h
  unfold remS
  by_cases h0 : mayE s no true = 0
  · rw [if_neg (by rw [h0]; decide)] at h
    rw [if_neg (by rw [h0]; decide), if_neg (by rw [h]; decide)]
    show (stepS s).off = false
    unfold stepE at h
    unfold stepS
    by_cases hf : s.fuse = 1
    · rw [if_pos hf] at h; cases h
    · rw [if_neg hf]; exact hoff
  · rw [if_pos h0] at h; exact absurd h h0
/-- what stands at the head of a round of removing -/
structure RmI (B db m : Nat) (g l : Int) (keys : List Int) (R : Int × DS) (k : Nat) (w4 : World) (j : Nat) (wr : World) : Prop where
  st : ∃ si, DStep B db m w4 si wr ∧ Okk si (k + j) ∧ si.off = false ∧ R = remOut g l (keys.drop j) si
set_option maxRecDepth 100000 in
set_option maxHeartbeats 8000000 in
theorem Open_any (B db m : Nat) (s : DS) (k : Nat) (w : World) (h : DT B db m s w) (hO : Okk s k) (hk : k ≤ 800000) (hoff : s.off = false) (hS : ∀ no, (s.fl no).data.size ≤ 100000) :
    Calls Tryd.prog 32 #[.pointer (some ⟨db, 0, none⟩)] w fun e w' => ∃ ptr, e = .returned (.tuple #[ptr, .int .i64 (openP s).e]) ∧ DStep B db m w (openP s).s w' ∧ OpenIs db w ptr w' (openP s).L := by
  have CO := on_any B db m s w h.d
  rw [hoff] at CO
  have CO := Lib.hid CO
  have hlt := h.d.lt
  have HT := Lib.hid h
  have HO := Lib.hid hO
  have HOff := Lib.hid hoff
  have HS := Lib.hid hS
  have CN := newest_any B db m s k w h hO hoff
  cases hN : newP s s.keys.reverse with
  | none =>
    have HP : Hid (openP s = ⟨18, s, none⟩) := Lib.hid (by rw [openP, hN])
    rw [hN] at CN
    unfold newR at CN
    have CN := Lib.hid CN
    clear h hO hoff hS hN
    go_enter Tryd.func32, Tryd.ntmps32
    go_wp2_with (first | (go_at_call 43; refine CO.out.mono ?_; rintro e w1 ⟨rfl, rfl⟩) | (go_at_call 50; refine CN.out.mono ?_; rintro e w1 ⟨rfl, hb1⟩))
    go_ret2
    rw [HP.out]
    exact ⟨_, rfl, DStep.same HT.out.d hb1, rfl⟩
  | some p =>
    have hP : openP s = openT p (segs s p) (remOut p.1 (segs s p).last s.keys s) := by rw [openP, hN]
    have hg := newP_rng s _ p (fun a ha => (keys_pos hO a (List.mem_reverse.1 ha)).1) hN
    have hl := segP_last s p.1 99 1 ⟨[], 0, 0⟩ ⟨by decide, by decide⟩ (by decide) (by decide)
    rw [show segP s p.1 99 1 ⟨[], 0, 0⟩ = segs s p from rfl] at hl
    obtain ⟨g, t⟩ := p
    rw [hN] at CN
    unfold newR at CN
    have CN := Lib.hid CN
    replace hg : 1 ≤ g ∧ g ≤ 9999 := hg
    have hgg : 0 ≤ g ∧ g ≤ 100000 := by omega
    obtain ⟨x, hx⟩ : ∃ x, segs s (g, t) = x := ⟨_, rfl⟩
    rw [hx] at hl hP
    obtain ⟨R, hR⟩ : ∃ R, remOut g x.last s.keys s = R := ⟨_, rfl⟩
    rw [show ((g, t) : Int × ByteArray).1 = g from rfl, hR] at hP
    have HP := Lib.hid hP
    have HX := Lib.hid (show segP s g 99 1 ⟨[], 0, 0⟩ = x from hx)
    have HR := Lib.hid hR
    clear h hO hoff hS hN hP hx hR
    go_enter Tryd.func32, Tryd.ntmps32
    go_upto_region 8 with (first | (go_at_call 43; refine CO.out.mono ?_; rintro e w1 ⟨rfl, rfl⟩) | (go_at_call 50; refine CN.out.mono ?_; rintro e w1 ⟨rfl, hb1⟩))
    have HB1 := Lib.hid hb1
    have hW0 : WInv B db m w1.heap.size s ⟨g, t, [], 0, 0, false⟩ (.slice none 0 0) (w1.alloc (.cells #[.pointer (some ⟨db, 0, none⟩), .int .i64 g, .string t, .slice none 0 0, .int .i64 0, .int .i64 0, .bool false] 85)) := by
      have ht := (HT.out.low hb1)
      refine ⟨ht.low (bel_allocT _ _), G.heap_new _ _, Nat.le_trans ht.d.hB (Nat.le_of_lt ht.d.lt), G.owns_nil _ _ _ _⟩
    have hBx : Below w1.heap.size w1 (w1.alloc (.cells #[.pointer (some ⟨db, 0, none⟩), .int .i64 g, .string t, .slice none 0 0, .int .i64 0, .int .i64 0, .bool false] 85)) := bel_allocT _ _
    clear hb1
    go_upto_region 9 with (fail)
    generalize w1.alloc (.cells #[.pointer (some ⟨db, 0, none⟩), .int .i64 g, .string t, .slice none 0 0, .int .i64 0, .int .i64 0, .bool false] 85) = W1 at *
    have HBW := Lib.hid (G.bthen HB1.out hBx)
    have HLB : Hid (w.heap.size ≤ w1.heap.size) := Lib.hid HB1.out.size
    obtain ⟨lb, hlb⟩ : ∃ lb, lb = w1.heap.size := ⟨_, rfl⟩
    rw [← hlb] at hW0 HLB ⊢
    have CS := segments_any B db m lb s ⟨g, t, [], 0, 0, false⟩ (.slice none 0 0) k W1 hW0 HO.out HOff.out HS.out hgg (Nat.zero_le _)
    rw [show segP s (LS.mk g t [] 0 0 false).gen 99 1 ⟨(LS.mk g t [] 0 0 false).recs, (LS.mk g t [] 0 0 false).last, 0⟩ = x from HX.out] at CS
    have CS := Lib.hid CS
    clear hW0 hBx hlb HB1
    go_upto_region 10 with (go_at_call 51; refine CS.out.mono ?_; rintro e w3 ⟨rfl, hs3⟩)
    have HS3 : Hid (WStep B db m lb (.slice none 0 0) W1 s ⟨g, t, x.recs, x.last, 0, false⟩ w3) := Lib.hid hs3
    clear hs3
    obtain ⟨v3, hw3, hf3, hr3⟩ := HS3.out
    have CL := Lib.hid (list_any B db m s w3 hw3.t.d HO.out.nd HO.out.rng (Nat.le_trans HO.out.len (by decide)))
    have HW3 := Lib.hid hw3
    have HF3 : Hid (WF db m lb (.slice none 0 0) W1 v3 w3) := Lib.hid ⟨hf3, hr3⟩
    clear hw3 hf3 hr3
    obtain ⟨n, hn⟩ : ∃ n, n = s.keys.length := ⟨_, rfl⟩
    have hn1 : n ≤ 110 := by rw [hn]; exact keys_len HO.out
    have HN := Lib.hid hn
    rw [← hn] at CL
    clear hn
    go_upto_block 1 with (go_at_call 52; refine CL.out.mono ?_; rintro e w4 ⟨lv, rfl, hown, hb4⟩; obtain ⟨LA, lc, rfl⟩ := owns_shape hown)
    have HOwn := Lib.hid hown
    have HW4 := Lib.hid (HW3.out.low hb4)
    have HF4 := Lib.hid (HF3.out.low hb4)
    have HP0 : Hid (RmI B db m g x.last s.keys R k w4 0 w4) := Lib.hid ⟨s, DStep.same HW4.out.t.d (Below.refl _ _), HO.out, HOff.out, by rw [List.drop_zero]; exact HR.out.symm⟩
    have HLS : Hid (db < w3.heap.size ∧ m < w3.heap.size) := Lib.hid ⟨HW3.out.t.d.lt, HW3.out.t.d.mlt⟩
    clear hown hb4
    go_wp2_with (fail)
    go_loopw [38] (fun i wr => ∃ j : Nat, j ≤ n ∧ i = .int .i64 j ∧ Hid (RmI B db m g x.last s.keys R k w4 j wr)) (fun i _ => n - (intOf i).toNat)
    case atStart => exact ⟨0, by omega, by go_num, HP0⟩
    case round =>
      obtain ⟨j, hj, rfl, HK⟩ := hrel
      obtain ⟨si, hst, hOi, hoffi, hRi⟩ := HK.out.st
      have HOffI := Lib.hid hoffi
      clear hoffi
      have HWr := Lib.hid (HW4.out.dstep hst)
      have HSt := Lib.hid hst
      have HOi := Lib.hid hOi
      by_cases hjn : j < n
      · have hjk : j < s.keys.length := by have := HN.out; omega
        obtain ⟨no, hno⟩ : ∃ no, no = s.keys[j] := ⟨_, rfl⟩
        rw [List.drop_eq_getElem_cons hjk, ← hno, remOut] at hRi
        have hnp := keys_pos HO.out no (hno ▸ List.getElem_mem hjk)
        obtain ⟨_, _, _, hvl, _, _, hcl⟩ := G.HasRow.of_owns HOwn.out
        cases hvl
        obtain ⟨lad, hla, e0⟩ := hcl j (kv no) (by rw [List.getElem?_map, List.getElem?_eq_getElem hjk, hno]; rfl)
        have hnf : ¬ Foot db m (lad.add j).block := by
          rw [add_block]
          obtain ⟨_, ⟨h1, _⟩ | ⟨g9, cap, cur, h1, h2, _⟩⟩ := HOwn.out
          · rw [hla] at h1; cases h1
          · rw [hla] at h1; cases h1
            rintro (e9 | e9)
            · have := HLS.out.1; simp only at e9; omega
            · have := HLS.out.2; simp only at e9; omega
        subst hla
        have e0 := cell_fr hst.2 hnf e0
        replace e0 : wr.cell? (lad.add j) = some (.int .i64 no) := e0
        have c4 := HWr.out.l.cs.2.2.2.2.1
        replace c4 : wr.cell? ⟨lb, 4, none⟩ = some (.int .i64 x.last) := c4
        have hlt := HWr.out.l.lt
        have HRi := Lib.hid hRi
        clear hcl hnf hno hRi hst hOi HK
        by_cases hge : g * 100 ≤ no
        · by_cases hle : no ≤ g * 100 + x.last
          · have hRi := HRi.out
            rw [if_pos ⟨hge, hle⟩] at hRi
            have HRj := Lib.hid hRi
            have hd1 : decide (g * 100 ≤ no) = true := decide_eq_true hge
            have hd2 : decide (no ≤ g * 100 + x.last) = true := decide_eq_true hle
            clear hRi HRi
            go_upto_region 13 with (fail)
            go_quiet ((go_at_call 53; exact Calls.quiet_of_same (begin_any g hgg _)))
            go_wp2
            go_roundw
            case rel => exact ⟨j + 1, by omega, by go_num, Lib.hid ⟨si, DStep.of (HSt.out.1.below (G.bdrewN (Below.refl _ _) _)) (HSt.out.2.trans (Fr.of_below (F := Foot db m) (G.bdrewN (Below.refl _ _) _)) (fun _ hj => .inl hj)), HOi.out.mono (by omega), HOffI.out, HRj.out⟩⟩
            case measure => simp [intOf]; omega
          · have hRi := HRi.out
            rw [if_neg (by omega)] at hRi
            have hd1 : decide (g * 100 ≤ no) = true := decide_eq_true hge
            have hd2 : decide (no ≤ g * 100 + x.last) = false := decide_eq_false hle
            have CR := fun V (hV : DInv B db m si V) => remove_any B db m si no V hV (HOi.out.bd (by omega))
            have hO1 := HOi.out.rem no
            have hon := fun h => rem_on (s := si) (no := no) HOffI.out h
            obtain ⟨E, hE⟩ : ∃ E, remE si no = E := ⟨_, rfl⟩
            obtain ⟨s1, hs1⟩ : ∃ s1, remS si no = s1 := ⟨_, rfl⟩
            rw [hE, hs1] at hon
            have HOn := Lib.hid hon
            rw [hE, hs1] at hRi
            simp only [hE, hs1] at CR
            rw [hs1] at hO1
            have HRj := Lib.hid hRi
            have HCR := Lib.hid CR
            have HO1 := Lib.hid hO1
            clear hRi HRi CR hO1 hon hE hs1
            go_upto_region 13 with (fail)
            go_quiet ((go_at_call 53; exact Calls.quiet_of_same (begin_any g hgg _)))
            have hbq : Below wr.heap.size wr (wr.drewN nq) := G.bdrewN (Below.refl _ _) nq
            generalize wr.drewN nq = wq at *
            have CQ := Lib.hid (HCR.out wq (HWr.out.t.d.below hbq))
            have HBQ := Lib.hid hbq
            clear hbq c4 hlt e0
            go_upto_region 15 with (go_at_call 54; refine CQ.out.mono ?_; rintro e w6 ⟨rfl, hs6⟩)
            have HS6 := Lib.hid (show DStep B db m w4 s1 w6 from DStep.of hs6.1 (HSt.out.2.trans ((Fr.of_below HBQ.out).trans hs6.2 (fun _ hj => .inl hj)) (fun _ hj => .inl hj)))
            clear hs6
            by_cases hE0 : E = 0
            · have hRi := HRj.out
              rw [if_neg (by rw [hE0]; decide)] at hRi
              have HRk := Lib.hid hRi
              have HOff1 := Lib.hid (HOn.out hE0)
              clear hRi
              subst hE0
              go_wp2_with (fail)
              go_roundw
              case rel => exact ⟨j + 1, by omega, by go_num, Lib.hid ⟨s1, HS6.out, HO1.out.mono (by omega), HOff1.out, HRk.out⟩⟩
              case measure => simp [intOf]; omega
            · have hRi := HRj.out
              rw [if_pos hE0] at hRi
              have HRk := Lib.hid hRi
              have hE1 : (E != 0) = true := by simpa using hE0
              have HE0 := Lib.hid hE0
              clear hRi hE0
              go_wp2_with (fail)
              go_ret2
              have hz := WStep.out HT.out.d HBW.out HLB.out rfl (HF4.out.cat (WStep.disk HW4.out HS6.out))
              rw [HP.out, HRk.out]
              unfold openT
              rw [if_pos HE0.out]
              exact ⟨_, rfl, hz.1, rfl⟩
        · have hRi := HRi.out
          rw [if_neg (by omega)] at hRi
          have hd1 : decide (g * 100 ≤ no) = false := decide_eq_false hge
          have CR := fun V (hV : DInv B db m si V) => remove_any B db m si no V hV (HOi.out.bd (by omega))
          have hO1 := HOi.out.rem no
          have hon := fun h => rem_on (s := si) (no := no) HOffI.out h
          obtain ⟨E, hE⟩ : ∃ E, remE si no = E := ⟨_, rfl⟩
          obtain ⟨s1, hs1⟩ : ∃ s1, remS si no = s1 := ⟨_, rfl⟩
          rw [hE, hs1] at hon
          have HOn := Lib.hid hon
          rw [hE, hs1] at hRi
          simp only [hE, hs1] at CR
          rw [hs1] at hO1
          have HRj := Lib.hid hRi
          have HCR := Lib.hid CR
          have HO1 := Lib.hid hO1
          clear hRi HRi CR hO1 hon hE hs1
          go_upto_region 13 with (fail)
          go_quiet ((go_at_call 53; exact Calls.quiet_of_same (begin_any g hgg _)))
          have hbq : Below wr.heap.size wr (wr.drewN nq) := G.bdrewN (Below.refl _ _) nq
          generalize wr.drewN nq = wq at *
          have CQ := Lib.hid (HCR.out wq (HWr.out.t.d.below hbq))
          have HBQ := Lib.hid hbq
          clear hbq c4 hlt e0
          go_upto_region 15 with (go_at_call 54; refine CQ.out.mono ?_; rintro e w6 ⟨rfl, hs6⟩)
          have HS6 := Lib.hid (show DStep B db m w4 s1 w6 from DStep.of hs6.1 (HSt.out.2.trans ((Fr.of_below HBQ.out).trans hs6.2 (fun _ hj => .inl hj)) (fun _ hj => .inl hj)))
          clear hs6
          by_cases hE0 : E = 0
          · have hRi := HRj.out
            rw [if_neg (by rw [hE0]; decide)] at hRi
            have HRk := Lib.hid hRi
            have HOff1 := Lib.hid (HOn.out hE0)
            clear hRi
            subst hE0
            go_wp2_with (fail)
            go_roundw
            case rel => exact ⟨j + 1, by omega, by go_num, Lib.hid ⟨s1, HS6.out, HO1.out.mono (by omega), HOff1.out, HRk.out⟩⟩
            case measure => simp [intOf]; omega
          · have hRi := HRj.out
            rw [if_pos hE0] at hRi
            have HRk := Lib.hid hRi
            have hE1 : (E != 0) = true := by simpa using hE0
            have HE0 := Lib.hid hE0
            clear hRi hE0
            go_wp2_with (fail)
            go_ret2
            have hz := WStep.out HT.out.d HBW.out HLB.out rfl (HF4.out.cat (WStep.disk HW4.out HS6.out))
            rw [HP.out, HRk.out]
            unfold openT
            rw [if_pos HE0.out]
            exact ⟨_, rfl, hz.1, rfl⟩
      · have : j = n := by omega
        subst this
        rw [List.drop_of_length_le (by have := HN.out; omega), remOut] at hRi
        have c4 := HWr.out.l.cs.2.2.2.2.1
        replace c4 : wr.cell? ⟨lb, 4, none⟩ = some (.int .i64 x.last) := c4
        have hlt := HWr.out.l.lt
        have HRi := Lib.hid hRi
        clear hst hOi hRi HK
        by_cases hl0 : x.last = 0
        · have hP := HP.out
          rw [HRi.out, openT, if_neg (show ¬ ((0 : Int) ≠ 0) by decide), if_pos hl0] at hP
          have HP1 := Lib.hid hP
          have HL0 := Lib.hid hl0
          rw [hl0] at c4
          clear hP hl0
          go_wp2_with (fail)
          go_ret2
          have hz := WStep.out HT.out.d HBW.out HLB.out rfl (HF4.out.cat (WStep.disk HW4.out HSt.out))
          rw [HP1.out]
          obtain ⟨v', hv'⟩ := hz.2
          exact ⟨_, rfl, hz.1, lb, v', rfl, hv'⟩
        · have hP := HP.out
          rw [HRi.out, openT, if_neg (show ¬ ((0 : Int) ≠ 0) by decide), if_neg hl0] at hP
          have hl9 : (x.last == 0) = false := by simpa using hl0
          obtain ⟨E, hE⟩ : ∃ E, tidE si (g * 100 + x.last) x.good = E := ⟨_, rfl⟩
          obtain ⟨S, hS⟩ : ∃ S, tidS si (g * 100 + x.last) x.good = S := ⟨_, rfl⟩
          have CT := tidy_any B db m lb si ⟨g, t, x.recs, x.last, 0, false⟩ v3 (k + j) x.good wr HWr.out HOi.out (by omega) HOffI.out hgg (by show 0 ≤ x.last ∧ x.last ≤ 1000; omega)
          replace CT : Calls Tryd.prog 55 #[.pointer (some ⟨lb, 0, none⟩), .int .i64 x.good] wr fun e w' => e = .returned (.int .i64 (tidE si (g * 100 + x.last) x.good)) ∧ WStep B db m lb v3 wr (tidS si (g * 100 + x.last) x.good) ⟨g, t, x.recs, x.last, 0, false⟩ w' := CT
          rw [hE, hS] at CT
          simp only [hE, hS] at hP
          have HP1 := Lib.hid hP
          have HFr := Lib.hid (HF4.out.disk HSt.out)
          have CT := Lib.hid CT
          have HL0 := Lib.hid hl0
          clear hP hE hS hl0
          go_upto_region 21 with (go_at_call 55; refine CT.out.mono ?_; rintro e w6 ⟨rfl, hs6⟩)
          have HS6 := Lib.hid hs6
          clear hs6
          by_cases hE0 : E = 0
          · have hP := HP1.out
            rw [if_neg (by rw [hE0]; decide)] at hP
            have HP2 := Lib.hid hP
            clear hP
            subst hE0
            go_wp2_with (fail)
            go_ret2
            have hz := WStep.out HT.out.d HBW.out HLB.out rfl (HFr.out.cat HS6.out)
            rw [HP2.out]
            obtain ⟨v', hv'⟩ := hz.2
            exact ⟨_, rfl, hz.1, lb, v', rfl, hv'⟩
          · have hP := HP1.out
            rw [if_pos hE0] at hP
            have HP2 := Lib.hid hP
            have hE1 : (E != 0) = true := by simpa using hE0
            clear hP hE0
            go_wp2_with (fail)
            go_ret2
            have hz := WStep.out HT.out.d HBW.out HLB.out rfl (HFr.out.cat HS6.out)
            rw [HP2.out]
            exact ⟨_, rfl, hz.1, rfl⟩
        
end Go.Proofs.YtdmjbdecemajpaaDoor.D
