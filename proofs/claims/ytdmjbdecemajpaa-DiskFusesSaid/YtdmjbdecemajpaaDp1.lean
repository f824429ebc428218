/- The walk of DiskKeeps. -/
import Derived.Test.YtdmjbdecemajpaaDn1
import Derived.Test.YtdmjbdecemajpaaRo1
namespace Go.Proofs.Ytdmjbdecemajpaa.D
set_option linter.unusedVariables false
set_option linter.unusedSimpArgs false
open Go.RowKit
theorem acts_at : ∀ (l : List Ac) (k : Nat) (h : k < l.length), (l.flatMap avs)[k * 5]? = some (.int .i64 l[k].p.kind) ∧ (l.flatMap avs)[k * 5 + 1]? = some (.int .i64 l[k].p.no) ∧ (l.flatMap avs)[k * 5 + 2]? = some (.int .i64 l[k].p.n) ∧ (l.flatMap avs)[k * 5 + 3]? = some (.string l[k].p.s) ∧ (l.flatMap avs)[k * 5 + 4]? = some (.slice l[k].A l[k].p.picks.length l[k].c)
  | a :: l, 0, _ => ⟨rfl, rfl, rfl, rfl, rfl⟩
  | a :: l, k + 1, h => by
    have := acts_at l k (by simpa using h)
    have e : ∀ i, ((a :: l).flatMap avs)[(k + 1) * 5 + i]? = (l.flatMap avs)[k * 5 + i]? := fun i => by
      rw [List.flatMap_cons, List.getElem?_append_right (by simp [avs]; omega)]
      congr 1
      simp [avs]; omega
    have e0 := e 0
    simp only [Nat.add_zero] at e0
    simp only [e, e0, List.getElem_cons_succ]
    exact this
theorem add_off (ad : Addr) (m j : Nat) (hj : 0 < j) : ad.add (m + j) = ⟨(ad.add m).block, (ad.add m).off + j, none⟩ := by
  unfold Addr.add
  rw [if_neg (by omega)]
  by_cases h : m = 0
  · rw [if_pos h, h, Nat.zero_add]
  · rw [if_neg h, Nat.add_assoc]
theorem DInv.base_le {B B' db m : Nat} {s : DS} {w : World} (h : DInv B' db m s w) (hb : B ≤ B') : DInv B db m s w := ⟨h.cells, Nat.le_trans hb h.hB, Nat.le_trans hb h.hm, h.map⟩
/-- what stands at the head of the k-th round -/
def KI (B db m : Nat) (no : Int) (k : Nat) (σ : ByteArray) (w0 wr : World) : Prop := ∃ s, DInv B db m s wr ∧ Okk s k ∧ Kp s no σ ∧ Below B w0 wr
/-- picks that came in are none of the disk's -/
theorem pk_of {W wr : World} {db m : Nat} {A : Option Addr} {picks : List Int} (h : ∀ k (hk : k < picks.length), ∃ ad, A = some ad ∧ W.cell? (ad.add k) = some (.int .i64 picks[k])) (hb : Below W.heap.size W wr) (hd : W.heap.size ≤ db) (hm : W.heap.size ≤ m) : Pk db m wr A picks := by
  refine ⟨fun k hk => ?_, fun k hk ad ha hf => ?_⟩
  · obtain ⟨ad, ha, hc⟩ := h k hk
    exact ⟨ad, ha, G.cell_below hb hc⟩
  · obtain ⟨ad', ha', hc⟩ := h k hk
    rw [ha] at ha'; cases ha'
    have := World.block_lt_of_cell? W _ hc
    rw [add_block] at this
    rcases hf with e | e <;> omega
structure YOk (W : World) (y : Ac) : Prop where
  lies : Lies W y
  n : y.p.n ≤ 9223372036854775807
  s : y.p.s.size ≤ 300
  np : y.p.picks.length ≤ 20
theorem cut_ok {W : World} {x : Ac} (h : ActOk W x) : YOk W (cutP x) := by
  refine ⟨h.lies.cut, h.n, ?_, ?_⟩
  · show (x.p.s.extract 0 (min x.p.s.size 300)).size ≤ 300
    simp; omega
  · show (x.p.picks.take (min x.p.picks.length 20)).length ≤ 20
    simp; omega
set_option maxRecDepth 100000 in
set_option maxHeartbeats 16000000 in
theorem keeps_main (l : List Ac) (A : Option Addr) (n c : Nat) (no : Int) (w : World) (hn : n = l.length) (h : Acts w A c l) :
    Calls Try.prog 3 #[.slice A n c, .int .i64 no] w fun e w' => e = .returned (.bool true) ∧ Below w.heap.size w w' := by
  have Hn := Lib.hid hn
  have hn0 : n ≤ 140737488351232 := by rw [hn]; exact h.2.1
  have HA := Lib.hid h.1
  have HR := h.2.2
  rw [← hn] at HR
  have HR := Lib.hid HR
  clear hn h
  go_enter Try.func3, Try.ntmps3
  go_upto_block 0 with (first
    | (go_at_call 6; refine (awake_any _).mono ?_; rintro e w1 ⟨rfl, hb1⟩; have HB1 := Lib.hid hb1; clear hb1)
    | (go_at_call 7; refine (new_any _).mono ?_; rintro e w2 ⟨db, m, rfl, hI, hb2⟩))
  obtain ⟨B, hB⟩ : ∃ B, B = w1.heap.size := ⟨_, rfl⟩
  have HP0 : Hid (KI B db m no 0 ⟨#[]⟩ w1 w2) := Lib.hid ⟨DS0, hB ▸ hI, Okk.start, .inr ⟨rfl, rfl⟩, hB ▸ hb2⟩
  have HB := Lib.hid hB
  clear hI hb2 hB
  go_wp2_with (fail)
  go_loopw [6, 7] (fun sv i wr => ∃ (k : Nat) (σ : ByteArray), k ≤ n ∧ k ≤ 130 ∧ i = .int .i64 k ∧ sv = .string σ ∧ Hid (KI B db m no k σ w1 wr)) (fun _ i _ => n - (intOf i).toNat)
  case atStart => exact ⟨0, ⟨#[]⟩, by omega, by omega, by go_num, rfl, HP0⟩
  case round =>
    obtain ⟨k, σ, hk, hk1, rfl, rfl, HK⟩ := hrel
    by_cases hkn : k < n
    · by_cases hk2 : k < 130
      · have hkl : k < l.length := by have := Hn.out; omega
        obtain ⟨s, hI, hO, hKp, hb⟩ := HK.out
        have hbw : Below w.heap.size w wr := G.bthen HB1.out (by rw [← HB.out]; exact hb)
        obtain ⟨_, A', c', hv, hlc, _, hcell⟩ := HR.out
        cases hv
        obtain ⟨ad, rfl, e0⟩ := hcell _ _ (acts_at l k hkl).1
        have cc : ∀ j u, (l.flatMap avs)[j]? = some u → wr.cell? (ad.add j) = some u := fun j u hj => by
          obtain ⟨ad', ha, hc⟩ := hcell j u hj
          cases ha
          exact G.cell_below hbw hc
        obtain ⟨x, hx⟩ : ∃ x, x = l[k] := ⟨_, rfl⟩
        have e0 := cc _ _ (acts_at l k hkl).1
        have e1 := cc _ _ (acts_at l k hkl).2.1
        have e2 := cc _ _ (acts_at l k hkl).2.2.1
        have e3 := cc _ _ (acts_at l k hkl).2.2.2.1
        have e4 := cc _ _ (acts_at l k hkl).2.2.2.2
        have hax := HA.out _ (List.getElem_mem hkl)
        rw [← hx] at e0 e1 e2 e3 e4 hax
        rw [add_off _ _ _ (by decide)] at e1 e2 e3 e4
        have CX := cutAct_any x wr hax.lies.1 hax.s
        obtain ⟨y, hy⟩ : ∃ y, y = cutP x := ⟨_, rfl⟩
        have hyk := cut_ok hax
        rw [← hy] at CX hyk
        have HI := Lib.hid hI
        have HO := Lib.hid hO
        have HKp := Lib.hid hKp
        have Hb := Lib.hid hb
        have Hbw := Lib.hid hbw
        obtain ⟨⟨kd, yn, yz, ys, yp⟩, YA, yc⟩ := y
        unfold av at CX
        have HCX := Lib.hid CX
        have HY := Lib.hid hyk
        clear cc hcell hI hO hKp hb hbw hx hax hy hyk CX
        go_upto_region 9 with (go_at_call 8; refine HCX.out.mono ?_; rintro e wa ⟨rfl, hba⟩)
        obtain ⟨wd, hwd⟩ : ∃ wd, wd = wa.alloc (.cells #[.int .i64 kd, .int .i64 yn, .int .i64 yz, .string ys, .slice YA yp.length yc] 28) := ⟨_, rfl⟩
        have hbd : Below wr.heap.size wr wd := hwd ▸ hba.trans (belowLe hba.size (bel_allocT _ _))
        have Hbd : Hid (Below B w1 wd) := Lib.hid (Hb.out.trans (belowLe (by rw [HB.out]; exact Hb.out.size) hbd))
        have HId := Lib.hid (HI.out.below hbd)
        have Hlw := Lib.hid (show w.heap.size ≤ B by rw [HB.out]; exact HB1.out.size)
        have HPk := Lib.hid (pk_of HY.out.lies.2 (G.bthen HB1.out (by rw [← HB.out]; exact Hbd.out)) (Nat.le_trans Hlw.out HId.out.hB) (Nat.le_trans Hlw.out HId.out.hm))
        have hx : wd.heap[wa.heap.size]? = some (.cells #[.int .i64 kd, .int .i64 yn, .int .i64 yz, .string ys, .slice YA yp.length yc] 28 (0, 0)) := by rw [hwd]; exact G.heap_new _ _
        have b0 : wd.cell? ⟨wa.heap.size, 0, none⟩ = some (.int .i64 kd) := by simp [World.cell?, hx]
        have b1 : wd.cell? ⟨wa.heap.size, 1, none⟩ = some (.int .i64 yn) := by simp [World.cell?, hx]
        have b2 : wd.cell? ⟨wa.heap.size, 2, none⟩ = some (.int .i64 yz) := by simp [World.cell?, hx]
        have b3 : wd.cell? ⟨wa.heap.size, 3, none⟩ = some (.string ys) := by simp [World.cell?, hx]
        have b4 : wd.cell? ⟨wa.heap.size, 4, none⟩ = some (.slice YA yp.length yc) := by simp [World.cell?, hx]
        rw [← hwd]
        obtain ⟨xb, hxb⟩ : ∃ xb, xb = wa.heap.size := ⟨_, rfl⟩
        rw [← hxb] at b0 b1 b2 b3 b4 ⊢
        clear hwd hba hbd hx hxb e0 e1 e2 e3 e4
        by_cases k3 : kd = 3
        · subst k3
          by_cases kn : yn = no
          · subst kn
            go_wp2
            go_roundw
            case rel => exact ⟨k + 1, σ, by omega, by omega, by go_num, rfl, Lib.hid ⟨s, HId.out, HO.out.mono (by omega), HKp.out, Hbd.out⟩⟩
            case measure => simp [intOf]; omega
          · have HCD := Lib.hid (does_any B db m s ⟨⟨3, yn, yz, ys, yp⟩, YA, yc⟩ _ HId.out (HO.out.bd (by omega)) HO.out.nd HO.out.rng HPk.out (by have := HY.out.np; exact Nat.le_trans this (by decide)) HY.out.lies.1 (Nat.le_trans HY.out.s (by decide)))
            have HO1 := Lib.hid (HO.out.does ⟨3, yn, yz, ys, yp⟩ HY.out.n)
            have HK1 := Lib.hid (HKp.out.does HO.out ⟨3, yn, yz, ys, yp⟩ (show ¬ (((3 : Int) = 3 ∨ (3 : Int) = 4) ∧ yn = no) by omega))
            unfold av at HCD
            obtain ⟨s1, hs1⟩ : ∃ s1, doesS s ⟨3, yn, yz, ys, yp⟩ = s1 := ⟨_, rfl⟩
            obtain ⟨E, hE⟩ : ∃ E, doesE s ⟨3, yn, yz, ys, yp⟩ = E := ⟨_, rfl⟩
            simp only [hs1, hE] at HCD HO1 HK1
            clear hs1 hE
            go_upto_region 11 with (go_at_call 9; refine HCD.out.mono ?_; rintro e we ⟨rfl, hst⟩)
            have Hbe := Lib.hid (DStep.below HId.out Hbd.out hst)
            have HI1 := Lib.hid hst.1
            have HCR := Lib.hid (read_any B db m s1 no we hst.1)
            have HT := Lib.hid (Kp.some HO1.out.fl HK1.out)
            have HN := Lib.hid (Kp.new (no := no) HO1.out.fl)
            have HFL := Lib.hid (fl_ok HO1.out.fl no)
            obtain ⟨T, hT⟩ : ∃ T, readT s1 no = T := ⟨_, rfl⟩
            obtain ⟨b, hb⟩ : ∃ b, readB s1 no = b := ⟨_, rfl⟩
            rw [hT, hb] at HCR
            have HTb := Lib.hid (And.intro hT hb)
            clear hst hT hb
            go_upto_region 12 with (go_at_call 10; refine HCR.out.mono ?_; rintro e wf ⟨rfl, hbf⟩)
            have Hbf := Lib.hid (Hbe.out.trans (belowLe (by rw [HB.out]; exact Hbe.out.size) hbf))
            have HI2 := Lib.hid (HI1.out.below hbf)
            have HCO := Lib.hid (on_any B db m s1 wf HI2.out)
            clear hbf
            cases hoff : s1.off
            · rw [hoff] at HCO
              have hT : T = (s1.fl no).data := by rw [← HTb.out.1, readT, hoff]; rfl
              have hb : b = (M.get s1.files no).isSome := by rw [← HTb.out.2, readB, hoff]; rfl
              have q1 := HT.out.1
              have q2 := HT.out.2.1
              have q3 := HT.out.2.2
              have HSS := safe_any B db m s1 no wf HI2.out
              have HKN := HN.out
              have hfl := HFL.out
              rw [show (M.get s1.files no).getD fl0 = s1.fl no from rfl] at hfl
              rw [← hT] at q2 q3 HKN hfl
              rw [← hb] at q1
              obtain ⟨S, hS⟩ : ∃ S, (s1.fl no).safe = S := ⟨_, rfl⟩
              rw [hS] at HSS HKN hfl
              have sl2 := slice_str T S hfl.1
              have hsz : T.size ≤ 1048576 := hfl.2
              have HSS := Lib.hid HSS
              have HKN := Lib.hid HKN
              clear hT hb hfl hS hoff HT HN HFL HTb
              cases b
              · obtain rfl := q1 rfl
                have sl := slice_str T 0 (Nat.zero_le _)
                rw [show T.extract 0 0 = ⟨#[]⟩ from q3] at sl
                clear q1 q2 q3
                go_wp2_with (first | (go_at_call 11; refine HCO.out.mono ?_; rintro e wg ⟨rfl, rfl⟩) | (go_at_call 12; refine HSS.out.mono ?_; rintro e wg ⟨rfl, rfl⟩))
                go_roundw
                case rel => exact ⟨k + 1, _, by omega, by omega, by go_num, rfl, Lib.hid ⟨s1, HI2.out, HO1.out, HKN.out, Hbf.out⟩⟩
                case measure => simp [intOf]; omega
              · have sl := slice_str T σ.size q2
                rw [q3] at sl
                clear q1 q3
                go_wp2_with (first | (go_at_call 11; refine HCO.out.mono ?_; rintro e wg ⟨rfl, rfl⟩) | (go_at_call 12; refine HSS.out.mono ?_; rintro e wg ⟨rfl, rfl⟩))
                go_roundw
                case rel => exact ⟨k + 1, _, by omega, by omega, by go_num, rfl, Lib.hid ⟨s1, HI2.out, HO1.out, HKN.out, Hbf.out⟩⟩
                case measure => simp [intOf]; omega
            · rw [hoff] at HCO
              go_wp2_with (go_at_call 11; refine HCO.out.mono ?_; rintro e wg ⟨rfl, rfl⟩)
              go_roundw
              case rel => exact ⟨k + 1, σ, by omega, by omega, by go_num, rfl, Lib.hid ⟨s1, HI2.out, HO1.out, HK1.out, Hbf.out⟩⟩
              case measure => simp [intOf]; omega
        · by_cases k4 : kd = 4
          · subst k4
            by_cases kn : yn = no
            · subst kn
              go_wp2
              go_roundw
              case rel => exact ⟨k + 1, σ, by omega, by omega, by go_num, rfl, Lib.hid ⟨s, HId.out, HO.out.mono (by omega), HKp.out, Hbd.out⟩⟩
              case measure => simp [intOf]; omega
            · have HCD := Lib.hid (does_any B db m s ⟨⟨4, yn, yz, ys, yp⟩, YA, yc⟩ _ HId.out (HO.out.bd (by omega)) HO.out.nd HO.out.rng HPk.out (by have := HY.out.np; exact Nat.le_trans this (by decide)) HY.out.lies.1 (Nat.le_trans HY.out.s (by decide)))
              have HO1 := Lib.hid (HO.out.does ⟨4, yn, yz, ys, yp⟩ HY.out.n)
              have HK1 := Lib.hid (HKp.out.does HO.out ⟨4, yn, yz, ys, yp⟩ (show ¬ (((4 : Int) = 3 ∨ (4 : Int) = 4) ∧ yn = no) by omega))
              unfold av at HCD
              obtain ⟨s1, hs1⟩ : ∃ s1, doesS s ⟨4, yn, yz, ys, yp⟩ = s1 := ⟨_, rfl⟩
              obtain ⟨E, hE⟩ : ∃ E, doesE s ⟨4, yn, yz, ys, yp⟩ = E := ⟨_, rfl⟩
              simp only [hs1, hE] at HCD HO1 HK1
              clear hs1 hE
              go_upto_region 11 with (go_at_call 9; refine HCD.out.mono ?_; rintro e we ⟨rfl, hst⟩)
              have Hbe := Lib.hid (DStep.below HId.out Hbd.out hst)
              have HI1 := Lib.hid hst.1
              have HCR := Lib.hid (read_any B db m s1 no we hst.1)
              have HT := Lib.hid (Kp.some HO1.out.fl HK1.out)
              have HN := Lib.hid (Kp.new (no := no) HO1.out.fl)
              have HFL := Lib.hid (fl_ok HO1.out.fl no)
              obtain ⟨T, hT⟩ : ∃ T, readT s1 no = T := ⟨_, rfl⟩
              obtain ⟨b, hb⟩ : ∃ b, readB s1 no = b := ⟨_, rfl⟩
              rw [hT, hb] at HCR
              have HTb := Lib.hid (And.intro hT hb)
              clear hst hT hb
              go_upto_region 12 with (go_at_call 10; refine HCR.out.mono ?_; rintro e wf ⟨rfl, hbf⟩)
              have Hbf := Lib.hid (Hbe.out.trans (belowLe (by rw [HB.out]; exact Hbe.out.size) hbf))
              have HI2 := Lib.hid (HI1.out.below hbf)
              have HCO := Lib.hid (on_any B db m s1 wf HI2.out)
              clear hbf
              cases hoff : s1.off
              · rw [hoff] at HCO
                have hT : T = (s1.fl no).data := by rw [← HTb.out.1, readT, hoff]; rfl
                have hb : b = (M.get s1.files no).isSome := by rw [← HTb.out.2, readB, hoff]; rfl
                have q1 := HT.out.1
                have q2 := HT.out.2.1
                have q3 := HT.out.2.2
                have HSS := safe_any B db m s1 no wf HI2.out
                have HKN := HN.out
                have hfl := HFL.out
                rw [show (M.get s1.files no).getD fl0 = s1.fl no from rfl] at hfl
                rw [← hT] at q2 q3 HKN hfl
                rw [← hb] at q1
                obtain ⟨S, hS⟩ : ∃ S, (s1.fl no).safe = S := ⟨_, rfl⟩
                rw [hS] at HSS HKN hfl
                have sl2 := slice_str T S hfl.1
                have hsz : T.size ≤ 1048576 := hfl.2
                have HSS := Lib.hid HSS
                have HKN := Lib.hid HKN
                clear hT hb hfl hS hoff HT HN HFL HTb
                cases b
                · obtain rfl := q1 rfl
                  have sl := slice_str T 0 (Nat.zero_le _)
                  rw [show T.extract 0 0 = ⟨#[]⟩ from q3] at sl
                  clear q1 q2 q3
                  go_wp2_with (first | (go_at_call 11; refine HCO.out.mono ?_; rintro e wg ⟨rfl, rfl⟩) | (go_at_call 12; refine HSS.out.mono ?_; rintro e wg ⟨rfl, rfl⟩))
                  go_roundw
                  case rel => exact ⟨k + 1, _, by omega, by omega, by go_num, rfl, Lib.hid ⟨s1, HI2.out, HO1.out, HKN.out, Hbf.out⟩⟩
                  case measure => simp [intOf]; omega
                · have sl := slice_str T σ.size q2
                  rw [q3] at sl
                  clear q1 q3
                  go_wp2_with (first | (go_at_call 11; refine HCO.out.mono ?_; rintro e wg ⟨rfl, rfl⟩) | (go_at_call 12; refine HSS.out.mono ?_; rintro e wg ⟨rfl, rfl⟩))
                  go_roundw
                  case rel => exact ⟨k + 1, _, by omega, by omega, by go_num, rfl, Lib.hid ⟨s1, HI2.out, HO1.out, HKN.out, Hbf.out⟩⟩
                  case measure => simp [intOf]; omega
              · rw [hoff] at HCO
                go_wp2_with (go_at_call 11; refine HCO.out.mono ?_; rintro e wg ⟨rfl, rfl⟩)
                go_roundw
                case rel => exact ⟨k + 1, σ, by omega, by omega, by go_num, rfl, Lib.hid ⟨s1, HI2.out, HO1.out, HK1.out, Hbf.out⟩⟩
                case measure => simp [intOf]; omega
          · have HCD := Lib.hid (does_any B db m s ⟨⟨kd, yn, yz, ys, yp⟩, YA, yc⟩ _ HId.out (HO.out.bd (by omega)) HO.out.nd HO.out.rng HPk.out (by have := HY.out.np; exact Nat.le_trans this (by decide)) HY.out.lies.1 (Nat.le_trans HY.out.s (by decide)))
            have HO1 := Lib.hid (HO.out.does ⟨kd, yn, yz, ys, yp⟩ HY.out.n)
            have HK1 := Lib.hid (HKp.out.does HO.out ⟨kd, yn, yz, ys, yp⟩ (show ¬ ((kd = 3 ∨ kd = 4) ∧ yn = no) by omega))
            unfold av at HCD
            obtain ⟨s1, hs1⟩ : ∃ s1, doesS s ⟨kd, yn, yz, ys, yp⟩ = s1 := ⟨_, rfl⟩
            obtain ⟨E, hE⟩ : ∃ E, doesE s ⟨kd, yn, yz, ys, yp⟩ = E := ⟨_, rfl⟩
            simp only [hs1, hE] at HCD HO1 HK1
            clear hs1 hE
            go_upto_region 11 with (go_at_call 9; refine HCD.out.mono ?_; rintro e we ⟨rfl, hst⟩)
            have Hbe := Lib.hid (DStep.below HId.out Hbd.out hst)
            have HI1 := Lib.hid hst.1
            have HCR := Lib.hid (read_any B db m s1 no we hst.1)
            have HT := Lib.hid (Kp.some HO1.out.fl HK1.out)
            have HN := Lib.hid (Kp.new (no := no) HO1.out.fl)
            have HFL := Lib.hid (fl_ok HO1.out.fl no)
            obtain ⟨T, hT⟩ : ∃ T, readT s1 no = T := ⟨_, rfl⟩
            obtain ⟨b, hb⟩ : ∃ b, readB s1 no = b := ⟨_, rfl⟩
            rw [hT, hb] at HCR
            have HTb := Lib.hid (And.intro hT hb)
            clear hst hT hb
            go_upto_region 12 with (go_at_call 10; refine HCR.out.mono ?_; rintro e wf ⟨rfl, hbf⟩)
            have Hbf := Lib.hid (Hbe.out.trans (belowLe (by rw [HB.out]; exact Hbe.out.size) hbf))
            have HI2 := Lib.hid (HI1.out.below hbf)
            have HCO := Lib.hid (on_any B db m s1 wf HI2.out)
            clear hbf
            cases hoff : s1.off
            · rw [hoff] at HCO
              have hT : T = (s1.fl no).data := by rw [← HTb.out.1, readT, hoff]; rfl
              have hb : b = (M.get s1.files no).isSome := by rw [← HTb.out.2, readB, hoff]; rfl
              have q1 := HT.out.1
              have q2 := HT.out.2.1
              have q3 := HT.out.2.2
              have HSS := safe_any B db m s1 no wf HI2.out
              have HKN := HN.out
              have hfl := HFL.out
              rw [show (M.get s1.files no).getD fl0 = s1.fl no from rfl] at hfl
              rw [← hT] at q2 q3 HKN hfl
              rw [← hb] at q1
              obtain ⟨S, hS⟩ : ∃ S, (s1.fl no).safe = S := ⟨_, rfl⟩
              rw [hS] at HSS HKN hfl
              have sl2 := slice_str T S hfl.1
              have hsz : T.size ≤ 1048576 := hfl.2
              have HSS := Lib.hid HSS
              have HKN := Lib.hid HKN
              clear hT hb hfl hS hoff HT HN HFL HTb
              cases b
              · obtain rfl := q1 rfl
                have sl := slice_str T 0 (Nat.zero_le _)
                rw [show T.extract 0 0 = ⟨#[]⟩ from q3] at sl
                clear q1 q2 q3
                go_wp2_with (first | (go_at_call 11; refine HCO.out.mono ?_; rintro e wg ⟨rfl, rfl⟩) | (go_at_call 12; refine HSS.out.mono ?_; rintro e wg ⟨rfl, rfl⟩))
                go_roundw
                case rel => exact ⟨k + 1, _, by omega, by omega, by go_num, rfl, Lib.hid ⟨s1, HI2.out, HO1.out, HKN.out, Hbf.out⟩⟩
                case measure => simp [intOf]; omega
              · have sl := slice_str T σ.size q2
                rw [q3] at sl
                clear q1 q3
                go_wp2_with (first | (go_at_call 11; refine HCO.out.mono ?_; rintro e wg ⟨rfl, rfl⟩) | (go_at_call 12; refine HSS.out.mono ?_; rintro e wg ⟨rfl, rfl⟩))
                go_roundw
                case rel => exact ⟨k + 1, _, by omega, by omega, by go_num, rfl, Lib.hid ⟨s1, HI2.out, HO1.out, HKN.out, Hbf.out⟩⟩
                case measure => simp [intOf]; omega
            · rw [hoff] at HCO
              go_wp2_with (go_at_call 11; refine HCO.out.mono ?_; rintro e wg ⟨rfl, rfl⟩)
              go_roundw
              case rel => exact ⟨k + 1, σ, by omega, by omega, by go_num, rfl, Lib.hid ⟨s1, HI2.out, HO1.out, HK1.out, Hbf.out⟩⟩
              case measure => simp [intOf]; omega
      · have : k = 130 := by omega
        subst this
        go_wp2
        go_ret
        obtain ⟨s, _, _, _, hb⟩ := HK.out
        exact ⟨rfl, G.bthen HB1.out (by rw [← HB.out]; exact hb)⟩
    · have : k = n := by omega
      subst this
      go_wp2
      go_ret
      obtain ⟨s, _, _, _, hb⟩ := HK.out
      exact ⟨rfl, G.bthen HB1.out (by rw [← HB.out]; exact hb)⟩
theorem keeps_any (l : List Ac) (A : Option Addr) (c : Nat) (W : World) (h : Acts W A c l) (no : Int) (w : World) (hw : w = W) :
    Calls Try.prog 3 #[.slice A l.length c, .int .i64 no] w fun e w' => e = .returned (.bool true) ∧ Below w.heap.size w w' := by
  subst hw
  exact keeps_main l A l.length c no w rfl h
end Go.Proofs.Ytdmjbdecemajpaa.D
