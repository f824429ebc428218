/- The walk of DiskFuses. -/
import Derived.Test.YtdmjbdecemajpaaDfT
import Derived.Test.YtdmjbdecemajpaaDp1
namespace Go.Proofs.Ytdmjbdecemajpaa.D
set_option linter.unusedVariables false
set_option linter.unusedSimpArgs false
open Go.RowKit
theorem and63 (n : Int) : ∃ q : Int, bits .and .i64 n 63 = q ∧ 0 ≤ q ∧ q ≤ 63 := by
  obtain ⟨m, hm⟩ : ∃ m : Nat, m = (BitVec.ofInt 64 n &&& BitVec.ofInt 64 63).toNat := ⟨_, rfl⟩
  have h63 : m ≤ 63 := by rw [hm, BitVec.toNat_and]; exact Nat.le_trans Nat.and_le_right (by decide)
  refine ⟨m, ?_, by omega, by omega⟩
  show IntKind.wrap .i64 ((BitVec.ofInt 64 n &&& BitVec.ofInt 64 63).toNat : Int) = m
  rw [← hm, IntKind.wrap_i64]
  omega
/-- both disks, apart -/
structure T2 (B db m rb : Nat) (s : DS) (r : RS) (v : Value) (w0 w : World) : Prop where
  d : DInv B db m s w
  r : RInv B rb r v w
  ap : ∀ j, Foot db m j → ¬ RFoot rb v j
  bel : Below B w0 w
theorem T2.below {B db m rb : Nat} {s : DS} {r : RS} {v : Value} {w0 w w1 : World} (h : T2 B db m rb s r v w0 w) (hb : Below w.heap.size w w1) : T2 B db m rb s r v w0 w1 :=
  ⟨h.d.below hb, h.r.below hb, h.ap, h.bel.trans (belowLe (Nat.le_trans h.d.hB (Nat.le_of_lt h.d.lt)) hb)⟩
theorem T2.stepD {B db m rb : Nat} {s s' : DS} {r : RS} {v : Value} {w0 w w1 : World} (h : T2 B db m rb s r v w0 w) (k : DStep B db m w s' w1) : T2 B db m rb s' r v w0 w1 :=
  ⟨k.1, h.r.keep fun j hj => k.2.block j (h.r.foot_lt hj) (fun hf => h.ap j hf hj), h.ap, DStep.below h.d h.bel k⟩
theorem T2.stepR {B db m rb : Nat} {s : DS} {r r' : RS} {v : Value} {w0 w w1 : World} (h : T2 B db m rb s r v w0 w) (k : RStep B rb v w r' w1) : ∃ v', T2 B db m rb s r' v' w0 w1 := by
  have hb := RStep.below h.r h.bel k
  obtain ⟨v', h1, h2, h3⟩ := k
  refine ⟨v', ⟨h.d.keep fun j hj => h3.block j (h.d.foot_lt hj) (fun hr => h.ap j hj hr), h1, fun j hj hr => ?_, hb⟩⟩
  rcases h2 j hr with h4 | h4
  · exact h.ap j hj h4
  · have := h.d.foot_lt hj; omega
/-- what stands at the head of the k-th round -/
def SI (B db m rb : Nat) (N : Int) (k : Nat) (w0 wr : World) : Prop := ∃ s r v, T2 B db m rb s r v w0 wr ∧ Okk s (k + 1) ∧ ((s.off = false ∧ Rel s r ∧ 1 ≤ s.fuse ∧ s.steps + s.fuse = N) ∨ s.off = true)
set_option maxRecDepth 100000 in
set_option maxHeartbeats 16000000 in
theorem fuses_main (l : List Ac) (A : Option Addr) (n c : Nat) (no : Int) (w : World) (hn : n = l.length) (h : Acts w A c l) :
    Calls Try.prog 4 #[.slice A n c, .int .i64 no] w fun e w' => e = .returned (.bool true) ∧ Below w.heap.size w w' := by
  have Hn := Lib.hid hn
  have hn0 : n ≤ 140737488351232 := by rw [hn]; exact h.2.1
  have HA := Lib.hid h.1
  have HR := h.2.2
  rw [← hn] at HR
  have HR := Lib.hid HR
  obtain ⟨q, hq, q0, q1⟩ := and63 no
  clear hn h
  go_enter Try.func4, Try.ntmps4
  go_upto_region 5 with (first
    | (go_at_call 6; refine (awake_any _).mono ?_; rintro e w1 ⟨rfl, hb1⟩; have HB1 := Lib.hid hb1; clear hb1)
    | (go_at_call 7; refine (new_any _).mono ?_; rintro e w2 ⟨db, m, rfl, hI, hb2⟩))
  obtain ⟨B, hB⟩ : ∃ B, B = w1.heap.size := ⟨_, rfl⟩
  have hb2' : Below B w1 w2 := hB ▸ hb2
  have hI' : DInv B db m DS0 w2 := hB ▸ hI
  have HT0 : Hid (T2 B db m w2.heap.size DS0 ⟨[], 0⟩ (.slice none 0 0) w1 (w2.alloc (.cells #[.slice none 0 0, .bool false, .int .i64 0, .int .i64 0] 39))) := Lib.hid (by
    have hba := bel_allocT w2 (.cells #[.slice none 0 0, .bool false, .int .i64 0, .int .i64 0] 39)
    refine ⟨hI'.below hba, ⟨G.heap_new _ _, by rw [hB]; exact hb2.size, ⟨rfl, .inl ⟨rfl, rfl⟩⟩⟩, ?_, hb2'.trans (belowLe (by rw [hB]; exact hb2.size) hba)⟩
    intro j hj hr
    have := hI'.foot_lt hj
    rcases hr with e | e
    · omega
    · simp [Value.ownBlock] at e)
  have HB := Lib.hid hB
  clear hI hI' hb2 hb2' hB
  go_upto_region 6 with (fail)
  generalize w2.alloc (.cells #[.slice none 0 0, .bool false, .int .i64 0, .int .i64 0] 39) = w3 at *
  obtain ⟨rb, hrb⟩ : ∃ rb, rb = w2.heap.size := ⟨_, rfl⟩
  rw [← hrb] at HT0 ⊢
  clear hrb
  have hcf := fuse_any B db m DS0 (1 + q) w3 HT0.out.d
  rw [show fusE DS0 = 0 from rfl] at hcf
  have HCF := Lib.hid hcf
  clear hcf
  go_upto_block 0 with (go_at_call 13; refine HCF.out.mono ?_; rintro e w4 ⟨rfl, hs4⟩)
  have HP0 : Hid (SI B db m rb (1 + q) 0 w1 w4) := Lib.hid (by
    refine ⟨_, _, _, HT0.out.stepD hs4, Okk.start.fus _ (by omega), .inl ⟨rfl, ⟨?_, rfl⟩, ?_, ?_⟩⟩
    · show [] = ((([] : FM).map (·.1)).mergeSort leI).map _
      simp
    · show 1 ≤ max 0 (1 + q); omega
    · show 0 + max 0 (1 + q) = 1 + q; omega)
  clear hs4
  go_wp2_with (fail)
  go_loopw [7] (fun i wr => ∃ k : Nat, k ≤ n ∧ k ≤ 130 ∧ i = .int .i64 k ∧ Hid (SI B db m rb (1 + q) k w1 wr)) (fun i _ => n - (intOf i).toNat)
  case atStart => exact ⟨0, by omega, by omega, by go_num, HP0⟩
  case round =>
    obtain ⟨k, hk, hk1, rfl, HK⟩ := hrel
    obtain ⟨s, r, v, hT, hO, hS⟩ := HK.out
    have HT := Lib.hid hT
    have HO := Lib.hid hO
    have HS := Lib.hid hS
    have Hbw : Hid (Below w.heap.size w wr) := Lib.hid (G.bthen HB1.out (by rw [← HB.out]; exact hT.bel))
    have HCO := Lib.hid (on_any B db m s wr hT.d)
    clear HK hT hO hS
    by_cases hkn : k < n
    · by_cases hk2 : k < 130
      · cases hoff : s.off
        · rw [hoff] at HCO
          have hkl : k < l.length := by have := Hn.out; omega
          obtain ⟨_, A', c', hv, hlc, _, hcell⟩ := HR.out
          cases hv
          obtain ⟨ad, rfl, e0⟩ := hcell _ _ (acts_at l k hkl).1
          have cc : ∀ j u, (l.flatMap avs)[j]? = some u → wr.cell? (ad.add j) = some u := fun j u hj => by
            obtain ⟨ad', ha, hc⟩ := hcell j u hj
            cases ha
            exact G.cell_below Hbw.out hc
          obtain ⟨x, hx⟩ : ∃ x, x = l[k] := ⟨_, rfl⟩
          have e0 := cc _ _ (acts_at l k hkl).1
          have e1 := cc _ _ (acts_at l k hkl).2.1
          have e2 := cc _ _ (acts_at l k hkl).2.2.1
          have e3 := cc _ _ (acts_at l k hkl).2.2.2.1
          have e4 := cc _ _ (acts_at l k hkl).2.2.2.2
          have hax := HA.out _ (List.getElem_mem hkl)
          rw [← hx] at e0 e1 e2 e3 e4 hax
          rw [add_off _ _ _ (by decide)] at e1 e2 e3 e4
          have CX := cutAct_any x wr hax.lies.1 hax.s
          obtain ⟨y, hy⟩ : ∃ y, y = cutP x := ⟨_, rfl⟩
          have hyk := cut_ok hax
          rw [← hy] at CX hyk
          obtain ⟨⟨kd, yn, yz, ys, yp⟩, YA, yc⟩ := y
          unfold av at CX
          have HCX := Lib.hid CX
          have HY := Lib.hid hyk
          have HOff := Lib.hid hoff
          clear cc hcell hx hax hy hyk CX hoff
          go_upto_region 12 with (first | (go_at_call 11; refine HCO.out.mono ?_; rintro e w' ⟨rfl, rfl⟩) | (go_at_call 8; refine HCX.out.mono ?_; rintro e wa ⟨rfl, hba⟩))
          obtain ⟨wd, hwd⟩ : ∃ wd, wd = wa.alloc (.cells #[.int .i64 kd, .int .i64 yn, .int .i64 yz, .string ys, .slice YA yp.length yc] 28) := ⟨_, rfl⟩
          have hbd : Below wr.heap.size wr wd := hwd ▸ hba.trans (belowLe hba.size (bel_allocT _ _))
          have HTd := Lib.hid (HT.out.below hbd)
          have Hbd := Lib.hid (G.bthen HB1.out (by rw [← HB.out]; exact HTd.out.bel))
          have Hlw := Lib.hid (show w.heap.size ≤ B by rw [HB.out]; exact HB1.out.size)
          have HPk := Lib.hid (pk_of HY.out.lies.2 Hbd.out (Nat.le_trans Hlw.out HTd.out.d.hB) (Nat.le_trans Hlw.out HTd.out.d.hm))
          have hx : wd.heap[wa.heap.size]? = some (.cells #[.int .i64 kd, .int .i64 yn, .int .i64 yz, .string ys, .slice YA yp.length yc] 28 (0, 0)) := by rw [hwd]; exact G.heap_new _ _
          have hdx : db < wa.heap.size ∧ m < wa.heap.size := ⟨Nat.lt_of_lt_of_le HT.out.d.lt hba.size, Nat.lt_of_lt_of_le HT.out.d.mlt hba.size⟩
          rw [← hwd]
          obtain ⟨xb, hxb⟩ : ∃ xb, xb = wa.heap.size := ⟨_, rfl⟩
          rw [← hxb] at hx hdx ⊢
          have hlx : xb < wd.heap.size := (Array.getElem?_eq_some_iff.1 hx).1
          have b0 : wd.cell? ⟨xb, 0, none⟩ = some (.int .i64 kd) := by simp [World.cell?, hx]
          have b1 : wd.cell? ⟨xb, 1, none⟩ = some (.int .i64 yn) := by simp [World.cell?, hx]
          have b2 : wd.cell? ⟨xb, 2, none⟩ = some (.int .i64 yz) := by simp [World.cell?, hx]
          have b3 : wd.cell? ⟨xb, 3, none⟩ = some (.string ys) := by simp [World.cell?, hx]
          have b4 : wd.cell? ⟨xb, 4, none⟩ = some (.slice YA yp.length yc) := by simp [World.cell?, hx]
          have HX := Lib.hid hx
          have HDX := Lib.hid hdx
          clear hwd hba hbd hx hdx hxb e0 e1 e2 e3 e4
          by_cases k5 : kd < 5
          · have k5' : ¬ 5 ≤ kd := by omega
            have HCD := Lib.hid (does_any B db m s ⟨⟨kd, yn, yz, ys, yp⟩, YA, yc⟩ _ HTd.out.d (HO.out.bd (by omega)) HO.out.nd HO.out.rng HPk.out (by have := HY.out.np; exact Nat.le_trans this (by decide)) HY.out.lies.1 (Nat.le_trans HY.out.s (by decide)))
            have HO1 := Lib.hid (HO.out.does ⟨kd, yn, yz, ys, yp⟩ HY.out.n)
            have hS := HS.out.resolve_right (by rw [HOff.out]; decide)
            have HF := Lib.hid (fuse_law (s := s) ⟨kd, yn, yz, ys, yp⟩ (1 + q) HOff.out hS.2.2.1 hS.2.2.2 (by show kd ≤ 4; omega))
            have HPL := Lib.hid (fun (W : World) (hw : RInv B rb r v W) (hon : (doesS s ⟨kd, yn, yz, ys, yp⟩).off = false) => play_any B rb s r v (k + 1) ⟨⟨kd, yn, yz, ys, yp⟩, YA, yc⟩ W hw hS.2.1 HO.out (by omega) hS.2.2.1 HOff.out (by show kd ≤ 4; omega) HY.out.s hon)
            unfold av at HCD HPL
            obtain ⟨s1, hs1⟩ : ∃ s1, doesS s ⟨kd, yn, yz, ys, yp⟩ = s1 := ⟨_, rfl⟩
            obtain ⟨E, hE⟩ : ∃ E, doesE s ⟨kd, yn, yz, ys, yp⟩ = E := ⟨_, rfl⟩
            simp only [hs1, hE] at HCD HO1 HF HPL
            clear hs1 hE hS
            go_upto_region 14 with (go_at_call 9; refine HCD.out.mono ?_; rintro e we ⟨rfl, hst⟩)
            have HTe := Lib.hid (HTd.out.stepD hst)
            have hxe : we.heap[xb]? = some (.cells #[.int .i64 kd, .int .i64 yn, .int .i64 yz, .string ys, .slice YA yp.length yc] 28 (0, 0)) := (hst.2.block xb hlx (by rintro (e | e); have := HDX.out.1; omega; have := HDX.out.2; omega)).trans HX.out
            have b0 : we.cell? ⟨xb, 0, none⟩ = some (.int .i64 kd) := by simp [World.cell?, hxe]
            have b1 : we.cell? ⟨xb, 1, none⟩ = some (.int .i64 yn) := by simp [World.cell?, hxe]
            have b2 : we.cell? ⟨xb, 2, none⟩ = some (.int .i64 yz) := by simp [World.cell?, hxe]
            have b3 : we.cell? ⟨xb, 3, none⟩ = some (.string ys) := by simp [World.cell?, hxe]
            have b4 : we.cell? ⟨xb, 4, none⟩ = some (.slice YA yp.length yc) := by simp [World.cell?, hxe]
            have hlx : xb < we.heap.size := (Array.getElem?_eq_some_iff.1 hxe).1
            have HCO1 := Lib.hid (on_any B db m s1 we HTe.out.d)
            clear hst hxe HX
            cases hoff : s1.off
            · rw [hoff] at HCO1
              have hF := HF.out.resolve_right (by rw [hoff]; rintro ⟨h, _⟩; cases h)
              have hst1 : ¬ (1 + q ≤ s1.steps) := by omega
              have hst2 : s1.steps < 1 + q := by omega
              have HCP := Lib.hid (HPL.out we HTe.out.r hoff)
              have HOff1 := Lib.hid hoff
              have HF1 := Lib.hid hF
              clear hoff hF
              go_upto_region 15 with (go_at_call 11; refine HCO1.out.mono ?_; rintro e w' ⟨rfl, rfl⟩)
              go_wp2_with (first
                | (go_at_call 14; refine HCP.out.mono ?_; rintro e wg ⟨rfl, r1, hr1, hRel⟩; obtain ⟨v1, hT1⟩ := HTe.out.stepR hr1; have HTg := Lib.hid hT1; have HRel := Lib.hid hRel; clear hr1 hRel hT1 b0 b1 b2 b3 b4 hlx)
                | (go_at_call 15; refine (same_any B db m rb s1 r1 v1 (k + 2) _ HTg.out.d HO1.out (by omega) HTg.out.r HRel.out HOff1.out).mono ?_; rintro e wh ⟨rfl, hbh⟩; have HTh := Lib.hid (HTg.out.below hbh); clear hbh)
                | (go_at_call 16; refine (steps_any B db m s1 _ HTh.out.d).mono ?_; rintro e wi ⟨rfl, rfl⟩))
              go_roundw
              case rel => exact ⟨k + 1, by omega, by omega, by go_num, Lib.hid ⟨s1, r1, v1, HTh.out, HO1.out, .inl ⟨HOff1.out, HRel.out, HF1.out.2.1, HF1.out.2.2⟩⟩⟩
              case measure => simp [intOf]; omega
            · rw [hoff] at HCO1
              have hF := HF.out.resolve_left (by rw [hoff]; rintro ⟨h, _⟩; cases h)
              obtain ⟨_, rfl, hst1⟩ := hF
              have HSt := steps_any B db m s1 we HTe.out.d
              rw [hst1] at HSt
              have HSt := Lib.hid HSt
              have HOff1 := Lib.hid hoff
              clear hoff hst1
              go_wp2_with (first
                | (go_at_call 11; refine HCO1.out.mono ?_; rintro e w' ⟨rfl, rfl⟩)
                | (go_at_call 16; refine HSt.out.mono ?_; rintro e wi ⟨rfl, rfl⟩))
              go_roundw
              case rel => exact ⟨k + 1, by omega, by omega, by go_num, Lib.hid ⟨s1, r, v, HTe.out, HO1.out, .inr HOff1.out⟩⟩
              case measure => simp [intOf]; omega
          · have k5' : 5 ≤ kd := by omega
            go_wp2
            go_roundw
            case rel => exact ⟨k + 1, by omega, by omega, by go_num, Lib.hid ⟨s, r, v, HTd.out, HO.out.mono (by omega), HS.out⟩⟩
            case measure => simp [intOf]; omega
        · rw [hoff] at HCO
          clear hoff
          go_wp2_with (go_at_call 11; refine HCO.out.mono ?_; rintro e w' ⟨rfl, rfl⟩)
          go_ret
          exact ⟨rfl, Hbw.out⟩
      · have : k = 130 := by omega
        subst this
        go_wp2
        go_ret
        exact ⟨rfl, Hbw.out⟩
    · have : k = n := by omega
      subst this
      go_wp2
      go_ret
      exact ⟨rfl, Hbw.out⟩
theorem fuses_any (l : List Ac) (A : Option Addr) (c : Nat) (W : World) (h : Acts W A c l) (no : Int) (w : World) (hw : w = W) :
    Calls Try.prog 4 #[.slice A l.length c, .int .i64 no] w fun e w' => e = .returned (.bool true) ∧ Below w.heap.size w w' := by
  subst hw
  exact fuses_main l A l.length c no w rfl h
end Go.Proofs.Ytdmjbdecemajpaa.D
