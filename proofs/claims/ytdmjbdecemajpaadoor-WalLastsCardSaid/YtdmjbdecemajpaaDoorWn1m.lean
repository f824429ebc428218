/- The walk of the chapter's example of the log, and of WalNil. -/
import Derived.Test.YtdmjbdecemajpaaDoorWkBm
namespace Go.Proofs.YtdmjbdecemajpaaDoor.D
set_option linter.unusedVariables false
set_option linter.unusedSimpArgs false
open Go.RowKit
theorem LInv.base_le {B B' db lb : Nat} {L : LS} {v : Value} {w : World} (h : LInv B' db lb L v w) (hb : B ≤ B') : LInv B db lb L v w := ⟨h.cells, Nat.le_trans hb h.hB, owns_base_le h.row hb⟩
theorem WStep.get' {B db m lb : Nat} {s s1 : DS} {L L1 : LS} {v : Value} {w0 w w1 : World} (h : WInv B db m lb s L v w) (hb : Below B w0 w) (k : WStep B db m lb v w s1 L1 w1) : ∃ v1, WInv B db m lb s1 L1 v1 w1 ∧ Below B w0 w1 := by
  have h2 := WStep.below h hb k
  obtain ⟨v1, h1, _⟩ := k
  exact ⟨v1, h1, h2⟩
theorem tab_pos {w : World} (h : TabOf w) : 0 < w.heap.size := World.block_lt_of_cell? w _ (h 0 (by decide))
theorem small1 (z : ByteArray) (hz : z.size = 8) (no : Int) : ((X1 z).fl no).data.size ≤ 100000 := by
  show ((M.get [((100 : Int), (⟨z, 8⟩ : Fl))] no).getD fl0).data.size ≤ 100000
  unfold M.get
  split
  · show z.size ≤ _; omega
  · show 0 ≤ _; omega
theorem small2 (z a : ByteArray) (n : Nat) (k : Int) (hz : z.size = 8) (ha : a.size ≤ 100000) (no : Int) : ((X2 z a n k).fl no).data.size ≤ 100000 := by
  show ((M.get [((100 : Int), (⟨z, 8⟩ : Fl)), ((101 : Int), (⟨a, n⟩ : Fl))] no).getD fl0).data.size ≤ 100000
  unfold M.get
  split
  · show z.size ≤ _; omega
  · unfold M.get
    split
    · exact ha
    · show 0 ≤ _; omega
theorem same_one (t : ByteArray) (b2 : Nat) (vr : Value) (wa : World) (h : wa.ownsRow b2 9 1 vr 1 (strs [t])) :
    Calls Tryd.prog 27 #[vr, .slice (some ⟨wa.heap.size, 0, none⟩) 1 1] (wa.alloc (.cells #[.string t] 9)) fun e w' => e = .returned (.bool true) ∧ Below (wa.alloc (.cells #[.string t] 9)).heap.size (wa.alloc (.cells #[.string t] 9)) w' := by
  have h1 : G.HasRow (wa.alloc (.cells #[.string t] 9)) 1 vr 1 (strs [t]) := (G.HasRow.of_owns h).below (bel_allocT _ _)
  have h2 : G.HasRow (wa.alloc (.cells #[.string t] 9)) 1 (.slice (some ⟨wa.heap.size, 0, none⟩) 1 1) 1 (strs [t]) :=
    G.HasRow.of_owns (World.ownsRow_lit (base := 0) (e := 9) (size := 1) wa #[.string t] 1 (Nat.zero_le _) (by unfold maxLen; omega) rfl)
  have := same_any vr (.slice (some ⟨wa.heap.size, 0, none⟩) 1 1) [t] [t] _ h1 h2
  rw [decide_eq_true rfl] at this
  exact this
set_option maxRecDepth 100000 in
set_option maxHeartbeats 8000000 in
theorem awake11 (w : World) (hT : Hid (TabOf w)) : Calls Tryd.prog 29 #[] w fun e w' => e = .returned (.bool true) ∧ Below w.heap.size w w' := by
  obtain ⟨B, hB⟩ : ∃ B, B = w.heap.size := ⟨_, rfl⟩
  have hpos : 0 < B := by rw [hB]; exact tab_pos hT.out
  obtain ⟨z, hz⟩ : ∃ z, frm ⟨#[]⟩ = z := ⟨_, rfl⟩
  obtain ⟨a, ha⟩ : ∃ a, frm ⟨#[97]⟩ = a := ⟨_, rfl⟩
  obtain ⟨b, hb⟩ : ∃ b, frm ⟨#[98]⟩ = b := ⟨_, rfl⟩
  have hzs : z.size = 8 := by rw [← hz, frm_size]; rfl
  have has : a.size = 9 := by rw [← ha, frm_size]; rfl
  have hbs : b.size = 9 := by rw [← hb, frm_size]; rfl
  have hwz := whole_frm ⟨#[]⟩ (by decide)
  rw [hz] at hwz
  have hsc : scan a = ([⟨#[97]⟩], 9) := by
    have := scan_all [⟨#[97]⟩] (by intro x hx; simp at hx; subst hx; decide)
    rw [show packs [⟨#[97]⟩] = a by rw [packs, packs, append_empty, ha], has] at this
    exact this
  have ok1 : Okk (X1 z) 2 := by have := Okk.start.lay 1 ⟨#[]⟩; rw [(x_lay z hzs hz).2] at this; exact this
  have p2 := x_app1 z a ⟨#[97]⟩ rfl has ha
  have ok2 : Okk (X2 z a 0 3) 4 := by have := ok1.wap ⟨1, ⟨#[]⟩, [], 0, 0, false⟩ ⟨#[97]⟩ ⟨by decide, by decide⟩; rw [p2.2.1] at this; exact this
  have p3 := x_syn z a ⟨#[97]⟩ has
  have ok3 : Okk (X2 z a 9 4) 5 := by have := ok2.wsy ⟨1, ⟨#[]⟩, [⟨#[97]⟩], 1, 1, false⟩; rw [p3.2.1] at this; exact this
  have p4 := x_app2 z a b ⟨#[97]⟩ ⟨#[98]⟩ rfl has hbs hb
  have ok4 : Okk (X2 z (a ++ b) 9 5) 7 := by have := ok3.wap ⟨1, ⟨#[]⟩, [⟨#[97]⟩], 1, 0, false⟩ ⟨#[98]⟩ ⟨by decide, by decide⟩; rw [p4.2.1] at this; exact this
  have ok5 : Okk (cutS (X2 z (a ++ b) 9 5)) 8 := ok4.cut
  have p6 := x_start z a b hzs has hbs
  have ok6 : Okk (X2 z a 9 5) 9 := by have := ok5.sta []; rw [p6.2] at this; exact this
  have HC1 : Hid (∀ db m w1, DT B db m DS0 w1 → Calls Tryd.prog 40 #[.pointer (some ⟨db, 0, none⟩)] w1 fun e w' => e = .returned (.int .i64 0) ∧ DStep B db m w1 (X1 z) w') := Lib.hid (fun db m w1 h => by
    have := Format_new B db m DS0 0 w1 h Okk.start (by decide) rfl (by show (([] : FM).map (·.1)).mergeSort leI = []; simp)
    rw [(x_lay z hzs hz).1, (x_lay z hzs hz).2] at this
    exact this)
  have HC2 : Hid (∀ db m w1, DT B db m (X1 z) w1 → Calls Tryd.prog 32 #[.pointer (some ⟨db, 0, none⟩)] w1 fun e w' => ∃ ptr, e = .returned (.tuple #[ptr, .int .i64 0]) ∧ DStep B db m w1 (X1 z) w' ∧ ∃ lb v, ptr = .pointer (some ⟨lb, 0, none⟩) ∧ LInv w1.heap.size db lb ⟨1, ⟨#[]⟩, [], 0, 0, false⟩ v w') := Lib.hid (fun db m w1 h => by
    have := Open_any B db m (X1 z) 2 w1 h ok1 (by decide) rfl (small1 z hzs)
    rw [x_open1 z hzs hwz.1 hwz.2] at this
    exact this)
  have HC3 : Hid (∀ db m lb v w1, WInv B db m lb (X1 z) ⟨1, ⟨#[]⟩, [], 0, 0, false⟩ v w1 → Calls Tryd.prog 33 #[.pointer (some ⟨lb, 0, none⟩), .string ⟨#[97]⟩] w1 fun e w' => e = .returned (.int .i64 0) ∧ WStep B db m lb v w1 (X2 z a 0 3) ⟨1, ⟨#[]⟩, [⟨#[97]⟩], 1, 1, false⟩ w') := Lib.hid (fun db m lb v w1 h => by
    have := Append_any B db m lb (X1 z) _ v 2 ⟨#[97]⟩ w1 h ok1 (by decide) ⟨by decide, by decide⟩ ⟨by decide, by decide⟩ ⟨by decide, by decide⟩ (by decide) (by decide)
    rw [p2.1, p2.2.1, p2.2.2] at this
    exact this)
  have HC4 : Hid (∀ db m lb v w1, WInv B db m lb (X2 z a 0 3) ⟨1, ⟨#[]⟩, [⟨#[97]⟩], 1, 1, false⟩ v w1 → Calls Tryd.prog 34 #[.pointer (some ⟨lb, 0, none⟩)] w1 fun e w' => e = .returned (.int .i64 0) ∧ WStep B db m lb v w1 (X2 z a 9 4) ⟨1, ⟨#[]⟩, [⟨#[97]⟩], 1, 0, false⟩ w') := Lib.hid (fun db m lb v w1 h => by
    have := Sync_any B db m lb (X2 z a 0 3) _ v 4 w1 h ok2 (by decide) ⟨by decide, by decide⟩ ⟨by decide, by decide⟩
    rw [p3.1, p3.2.1, p3.2.2] at this
    exact this)
  have HC5 : Hid (∀ db m lb v w1, WInv B db m lb (X2 z a 9 4) ⟨1, ⟨#[]⟩, [⟨#[97]⟩], 1, 0, false⟩ v w1 → Calls Tryd.prog 33 #[.pointer (some ⟨lb, 0, none⟩), .string ⟨#[98]⟩] w1 fun e w' => e = .returned (.int .i64 0) ∧ WStep B db m lb v w1 (X2 z (a ++ b) 9 5) ⟨1, ⟨#[]⟩, [⟨#[97]⟩, ⟨#[98]⟩], 1, 1, false⟩ w') := Lib.hid (fun db m lb v w1 h => by
    have := Append_any B db m lb (X2 z a 9 4) _ v 5 ⟨#[98]⟩ w1 h ok3 (by decide) ⟨by decide, by decide⟩ ⟨by decide, by decide⟩ ⟨by decide, by decide⟩ (by show 1 ≤ 1000000; decide) (by decide)
    rw [p4.1, p4.2.1, p4.2.2] at this
    exact this)
  have HC6 : Hid (∀ db m w1, DInv B db m (X2 z (a ++ b) 9 5) w1 → Calls Tryd.prog 31 #[.pointer (some ⟨db, 0, none⟩)] w1 fun e w' => e = .returned (.int .i64 0) ∧ DStep B db m w1 (cutS (X2 z (a ++ b) 9 5)) w') := Lib.hid (fun db m w1 h => cut_any B db m _ w1 h)
  have HC7 : Hid (∀ db m w1, DInv B db m (cutS (X2 z (a ++ b) 9 5)) w1 → Calls Tryd.prog 44 #[.pointer (some ⟨db, 0, none⟩), .slice none 0 0] w1 fun e w' => e = .returned (.int .i64 0) ∧ DStep B db m w1 (X2 z a 9 5) w') := Lib.hid (fun db m w1 h => by
    have := start_any B db m _ none 0 [] w1 h (ok5.bd (by decide)) ok5.nd ok5.rng ⟨fun k hk => absurd hk (by simp), fun k hk => absurd hk (by simp)⟩ (by decide) (by decide)
    rw [p6.1, p6.2] at this
    exact this)
  have HC8 : Hid (∀ db m w1, DT B db m (X2 z a 9 5) w1 → Calls Tryd.prog 32 #[.pointer (some ⟨db, 0, none⟩)] w1 fun e w' => ∃ ptr, e = .returned (.tuple #[ptr, .int .i64 0]) ∧ DStep B db m w1 (X2 z a 9 6) w' ∧ ∃ lb v, ptr = .pointer (some ⟨lb, 0, none⟩) ∧ LInv w1.heap.size db lb ⟨1, ⟨#[]⟩, [⟨#[97]⟩], 1, 0, false⟩ v w') := Lib.hid (fun db m w1 h => by
    have := Open_any B db m (X2 z a 9 5) 9 w1 h ok6 (by decide) rfl (small2 z a 9 5 hzs (by omega))
    rw [x_open2 z a ⟨#[97]⟩ hzs has hwz.1 hwz.2 hsc] at this
    exact this)
  clear ok1 ok2 ok3 ok4 ok5 ok6 p2 p3 p4 p6 hsc hwz hzs has hbs hz ha hb
  have HBB := Lib.hid hB
  clear hB
  go_enter Tryd.func29, Tryd.ntmps29
  go_upto_region 2 with (go_at_call 30; refine (new_any _).mono ?_; rintro e w1 ⟨db, m, rfl, hI, hb1⟩)
  rw [← HBB.out] at hI hb1
  have HB1 := Lib.hid hb1
  have HT1 : Hid (DT B db m DS0 w1) := Lib.hid ⟨hI, hT.out.below (by rw [← HBB.out]; exact hb1), hpos⟩
  clear hI hb1
  go_upto_region 3 with (go_at_call 40; refine (HC1.out db m w1 HT1.out).mono ?_; rintro e w2 ⟨rfl, hs2⟩)
  have HB2 := Lib.hid (DStep.below HT1.out.d HB1.out hs2)
  have HT2 := Lib.hid (HT1.out.step hs2)
  clear hs2
  go_upto_region 4 with (go_at_call 32; refine (HC2.out db m w2 HT2.out).mono ?_; rintro e w3 ⟨ptr, rfl, hs3, lb, v3, rfl, hL3⟩)
  have HB3 := Lib.hid (DStep.below HT2.out.d HB2.out hs3)
  have HW3 : Hid (WInv B db m lb (X1 z) ⟨1, ⟨#[]⟩, [], 0, 0, false⟩ v3 w3) := Lib.hid ⟨HT2.out.step hs3, hL3.base_le (Nat.le_trans HT2.out.d.hB (Nat.le_of_lt HT2.out.d.lt))⟩
  clear hs3 hL3
  go_upto_region 5 with (go_at_call 33; refine (HC3.out db m lb v3 w3 HW3.out).mono ?_; rintro e w4 ⟨rfl, hs4⟩)
  obtain ⟨v4, hw4, hb4⟩ := WStep.get' HW3.out HB3.out hs4
  have HW4 := Lib.hid hw4
  have HB4 := Lib.hid hb4
  clear hs4 hw4 hb4
  go_upto_region 6 with (go_at_call 34; refine (HC4.out db m lb v4 w4 HW4.out).mono ?_; rintro e w5 ⟨rfl, hs5⟩)
  obtain ⟨v5, hw5, hb5⟩ := WStep.get' HW4.out HB4.out hs5
  have HW5 := Lib.hid hw5
  have HB5 := Lib.hid hb5
  clear hs5 hw5 hb5
  go_upto_region 7 with (go_at_call 33; refine (HC5.out db m lb v5 w5 HW5.out).mono ?_; rintro e w6 ⟨rfl, hs6⟩)
  obtain ⟨v6, hw6, hb6⟩ := WStep.get' HW5.out HB5.out hs6
  have HT6 := Lib.hid hw6.t
  have HB6 := Lib.hid hb6
  clear hs6 hw6 hb6
  go_upto_region 8 with (go_at_call 31; refine (HC6.out db m w6 HT6.out.d).mono ?_; rintro e w7 ⟨rfl, hs7⟩)
  have HB7 := Lib.hid (DStep.below HT6.out.d HB6.out hs7)
  have HT7 := Lib.hid (HT6.out.step hs7)
  clear hs7
  go_upto_region 9 with (go_at_call 44; refine (HC7.out db m w7 HT7.out.d).mono ?_; rintro e w8 ⟨rfl, hs8⟩)
  have HB8 := Lib.hid (DStep.below HT7.out.d HB7.out hs8)
  have HT8 := Lib.hid (HT7.out.step hs8)
  clear hs8
  go_upto_region 10 with (go_at_call 32; refine (HC8.out db m w8 HT8.out).mono ?_; rintro e w9 ⟨ptr, rfl, hs9, lb2, v9, rfl, hL9⟩)
  have HB9 := Lib.hid (DStep.below HT8.out.d HB8.out hs9)
  have HW9 : Hid (WInv B db m lb2 (X2 z a 9 6) ⟨1, ⟨#[]⟩, [⟨#[97]⟩], 1, 0, false⟩ v9 w9) := Lib.hid ⟨HT8.out.step hs9, hL9.base_le (Nat.le_trans HT8.out.d.hB (Nat.le_of_lt HT8.out.d.lt))⟩
  clear hs9 hL9
  have HCR := Lib.hid (Records_any B db m lb2 _ _ v9 w9 HW9.out (by show 1 ≤ 1000000; decide))
  go_wp2_with (first
    | (go_at_call 37; refine HCR.out.mono ?_; rintro e wa ⟨vr, rfl, hor, hba⟩; have HOr := Lib.hid hor; have HBa := Lib.hid hba; clear hor hba)
    | (go_at_call 27; refine (same_one _ _ vr wa HOr.out).mono ?_; rintro e wb ⟨rfl, hbb⟩; have HBb := Lib.hid (G.bthen HBa.out (G.bthen (bel_allocT _ _) hbb)); clear hbb)
    | (go_at_call 36; refine (Text_any B db m lb2 _ _ v9 wb (HW9.out.low HBb.out)).mono ?_; rintro e wc ⟨rfl, rfl⟩))
  go_ret
  rw [← HBB.out]
  exact ⟨rfl, HB9.out.trans (belowLe (by have := HB9.out.size; rw [← HBB.out] at this; exact this) HBb.out)⟩
set_option maxRecDepth 100000 in
set_option maxHeartbeats 8000000 in
theorem walNil_walk (t : ByteArray) (ht : t.size ≤ 140737488351232) (w : World) (hT : Hid (TabOf w)) : Calls Tryd.prog 10 #[.string t] w fun e w' => e = .returned (.bool true) ∧ Below w.heap.size w w' := by
  go_enter Tryd.func10, Tryd.ntmps10
  go_upto_region 5 with (first
    | (go_at_call 29; refine (awake11 w hT).mono ?_; rintro e w1 ⟨rfl, hb1⟩; have HB1 := Lib.hid hb1; clear hb1)
    | (go_at_call 30; refine (new_any _).mono ?_; rintro e w2 ⟨db, m, rfl, hI, hb2⟩))
  obtain ⟨B, hB⟩ : ∃ B, B = w1.heap.size := ⟨_, rfl⟩
  rw [← hB] at hI hb2
  have HI := Lib.hid hI
  have HB2 := Lib.hid hb2
  have HBB := Lib.hid hB
  clear hI hb2 hB
  go_upto_region 6 with (go_at_call 31; refine (cut_any B db m DS0 w2 HI.out).mono ?_; rintro e w3 ⟨rfl, hs3⟩)
  have HB3 := Lib.hid (DStep.below HI.out HB2.out hs3)
  have HI3 := Lib.hid hs3.1
  clear hs3
  have HC1 : Hid (Calls Tryd.prog 32 #[.pointer (some ⟨db, 0, none⟩)] w3 fun e w' => e = .returned (.tuple #[.pointer none, .int .i64 6]) ∧ w' = w3) := Lib.hid (Open_off B db m _ w3 HI3.out rfl)
  have HC2 : Hid (Calls Tryd.prog 40 #[.pointer (some ⟨db, 0, none⟩)] w3 fun e w' => e = .returned (.int .i64 6) ∧ w' = w3) := Lib.hid (Format_off B db m _ w3 HI3.out rfl)
  go_upto_region 7 with (go_at_call 32; refine (Open_nil w3).mono ?_; rintro e wx ⟨rfl, hx⟩; have hx' := hx.symm; clear hx; subst hx')
  go_upto_region 8 with (go_at_call 32; refine HC1.out.mono ?_; rintro e wx ⟨rfl, hx⟩; have hx' := hx.symm; clear hx; subst hx')
  go_wp2_with (first
    | (go_at_call 33; refine (wAppend_nil t w3).mono ?_; rintro e wx ⟨rfl, hx⟩; have hx' := hx.symm; clear hx; subst hx')
    | (go_at_call 34; refine (wSync_nil w3).mono ?_; rintro e wx ⟨rfl, hx⟩; have hx' := hx.symm; clear hx; subst hx')
    | (go_at_call 35; refine (wRenew_nil t w3).mono ?_; rintro e wx ⟨rfl, hx⟩; have hx' := hx.symm; clear hx; subst hx')
    | (go_at_call 36; refine (Text_nil w3).mono ?_; rintro e wx ⟨rfl, hx⟩; have hx' := hx.symm; clear hx; subst hx')
    | (go_at_call 37; refine (Records_nil w3).mono ?_; rintro e wx ⟨rfl, hx⟩; have hx' := hx.symm; clear hx; subst hx')
    | (go_at_call 38; refine (Generation_nil w3).mono ?_; rintro e wx ⟨rfl, hx⟩; have hx' := hx.symm; clear hx; subst hx')
    | (go_at_call 39; refine (Pending_nil w3).mono ?_; rintro e wx ⟨rfl, hx⟩; have hx' := hx.symm; clear hx; subst hx')
    | (go_at_call_of 40 (Value.pointer none); refine (Format_nil w3).mono ?_; rintro e wx ⟨rfl, hx⟩; have hx' := hx.symm; clear hx; subst hx')
    | (go_at_call 40; refine HC2.out.mono ?_; rintro e wx ⟨rfl, hx⟩; have hx' := hx.symm; clear hx; subst hx'))
  go_ret
  exact ⟨rfl, G.bthen HB1.out (by rw [← HBB.out]; exact HB3.out)⟩
end Go.Proofs.YtdmjbdecemajpaaDoor.D
