/- Append; Records. -/
import Derived.Test.YtdmjbdecemajpaaDoorWk5
import Derived.Test.YtdmjbdecemajpaaDoorShelf
namespace Go.Proofs.YtdmjbdecemajpaaDoor.D
set_option linter.unusedVariables false
set_option linter.unusedSimpArgs false
open Go.RowKit
structure RoomOk (s : DS) (L : LS) (k : Nat) (r : RR) : Prop where
  gen : r.L.gen = L.gen
  last : r.L.last = L.last
  recs : r.L.recs = L.recs
  text : r.L.text = L.text
  pend : r.L.pend = L.pend ∨ r.L.pend = 0
  ok : Okk r.s (k + 1)
  k : 0 ≤ r.k ∧ r.k ≤ 1001
  e : 0 ≤ r.e ∧ r.e ≤ 100
theorem may_rng (s : DS) (no : Int) (b : Bool) : 0 ≤ mayE s no b ∧ mayE s no b ≤ 100 := by
  unfold mayE
  repeat' split
  all_goals decide
theorem stepE_rng (s : DS) : 0 ≤ stepE s ∧ stepE s ≤ 100 := by
  unfold stepE
  split
  all_goals decide
theorem synE_rng (s : DS) (no : Int) : 0 ≤ synE s no ∧ synE s no ≤ 100 := by
  unfold synE
  split
  · exact may_rng _ _ _
  · exact stepE_rng _
theorem str_ne {t : ByteArray} (h : t ≠ ⟨#[]⟩) : (t.toList == ([] : List UInt8)) = false := by
  have := str_other h
  rw [show (⟨#[]⟩ : ByteArray).toList = [] by rw [toList_BL]; rfl] at this
  exact this
theorem room_ok {s : DS} {L : LS} {k : Nat} (hO : Okk s k) (hl : 0 ≤ L.last ∧ L.last ≤ 1000) : RoomOk s L k (roomP s L) := by
  have hE := synE_rng s (L.gen * 100 + L.last)
  unfold roomP
  split
  · exact ⟨rfl, rfl, rfl, rfl, .inl rfl, hO.mono (by omega), by show 0 ≤ L.last ∧ L.last ≤ 1001; omega, by show (0 : Int) ≤ 0 ∧ (0 : Int) ≤ 100; decide⟩
  split
  · exact ⟨rfl, rfl, rfl, rfl, .inl rfl, hO.mono (by omega), by show (0 : Int) ≤ 0 ∧ (0 : Int) ≤ 1001; decide, by show (0 : Int) ≤ 9 ∧ (9 : Int) ≤ 100; decide⟩
  split
  · split
    · exact ⟨rfl, rfl, rfl, rfl, .inl rfl, hO.syn _, by show (0 : Int) ≤ 0 ∧ (0 : Int) ≤ 1001; decide, hE⟩
    · exact ⟨rfl, rfl, rfl, rfl, .inr rfl, hO.syn _, by show 0 ≤ L.last + 1 ∧ L.last + 1 ≤ 1001; omega, by show (0 : Int) ≤ 0 ∧ (0 : Int) ≤ 100; decide⟩
  · exact ⟨rfl, rfl, rfl, rfl, .inl rfl, hO.mono (by omega), by show 0 ≤ L.last + 1 ∧ L.last + 1 ≤ 1001; omega, by show (0 : Int) ≤ 0 ∧ (0 : Int) ≤ 100; decide⟩
/-- the log's Append, behind its first tests -/
def wapE (s : DS) (L : LS) (t : ByteArray) : Int := if t.size = 0 ∨ 65536 < t.size then 5 else if L.over = true then 11 else if (roomP s L).e ≠ 0 then (roomP s L).e else appE (roomP s L).s (L.gen * 100 + (roomP s L).k) (frm t)
def wapS (s : DS) (L : LS) (t : ByteArray) : DS := if t.size = 0 ∨ 65536 < t.size then s else if L.over = true then s else if (roomP s L).e ≠ 0 then (roomP s L).s else appS (roomP s L).s (L.gen * 100 + (roomP s L).k) (frm t)
def addL (r : RR) (t : ByteArray) (E : Int) : LS := if E ≠ 0 then endL r.L E else { endL r.L E with last := r.k, recs := r.L.recs ++ [t], pend := r.L.pend + 1 }
def wapL (s : DS) (L : LS) (t : ByteArray) : LS := if t.size = 0 ∨ 65536 < t.size then L else if L.over = true then L else if (roomP s L).e ≠ 0 then (roomP s L).L else addL (roomP s L) t (appE (roomP s L).s (L.gen * 100 + (roomP s L).k) (frm t))
set_option maxRecDepth 100000 in
set_option maxHeartbeats 8000000 in
theorem Append_any (B db m lb : Nat) (s : DS) (L : LS) (v : Value) (k : Nat) (t : ByteArray) (w : World) (h : WInv B db m lb s L v w) (hO : Okk s k) (hk : k ≤ 900000) (hg : 0 ≤ L.gen ∧ L.gen ≤ 100000) (hl : 0 ≤ L.last ∧ L.last ≤ 1000) (hp : 0 ≤ L.pend ∧ L.pend ≤ 1000000) (hr : L.recs.length ≤ 1000000) (ht : t.size ≤ 140737488351232) :
    Calls Tryd.prog 33 #[.pointer (some ⟨lb, 0, none⟩), .string t] w fun e w' => e = .returned (.int .i64 (wapE s L t)) ∧ WStep B db m lb v w (wapS s L t) (wapL s L t) w' := by
  have hcs := h.l.cs
  have c6 := hcs.2.2.2.2.2.2
  have hlt := h.l.lt
  by_cases hbad : t.size = 0 ∨ 65536 < t.size
  · have HP : Hid (wapE s L t = 5 ∧ wapS s L t = s ∧ wapL s L t = L) := Lib.hid ⟨if_pos hbad, if_pos hbad, if_pos hbad⟩
    have HZ := Lib.hid (WStep.same h (Below.refl _ _))
    by_cases h0 : t.size = 0
    · have ht0 : t = ⟨#[]⟩ := by
        apply ByteArray.ext
        exact Array.eq_empty_of_size_eq_zero h0
      subst ht0
      clear h hO hcs c6 hbad h0
      go_enter Tryd.func33, Tryd.ntmps33
      go_wp2
      go_ret
      rw [HP.out.1, HP.out.2.1, HP.out.2.2]
      exact ⟨rfl, HZ.out⟩
    · have hne : t ≠ ⟨#[]⟩ := fun e => h0 (by rw [e]; rfl)
      have hs1 := str_other hne
      have hs2 := str_ne hne
      have hb : (65536 : Int) < t.size := by omega
      clear h hO hcs c6 hbad h0 hne
      go_enter Tryd.func33, Tryd.ntmps33
      go_wp2
      go_ret
      rw [HP.out.1, HP.out.2.1, HP.out.2.2]
      exact ⟨rfl, HZ.out⟩
  · have hne : t ≠ ⟨#[]⟩ := fun e => hbad (.inl (by rw [e]; rfl))
    have hs1 := str_other hne
    have hs2 := str_ne hne
    have hb : ¬ (65536 : Int) < t.size := by omega
    have hts : t.size ≤ 65536 := by omega
    have hP : wapE s L t = (if L.over = true then 11 else if (roomP s L).e ≠ 0 then (roomP s L).e else appE (roomP s L).s (L.gen * 100 + (roomP s L).k) (frm t)) ∧ wapS s L t = (if L.over = true then s else if (roomP s L).e ≠ 0 then (roomP s L).s else appS (roomP s L).s (L.gen * 100 + (roomP s L).k) (frm t)) ∧
      wapL s L t = (if L.over = true then L else if (roomP s L).e ≠ 0 then (roomP s L).L else addL (roomP s L) t (appE (roomP s L).s (L.gen * 100 + (roomP s L).k) (frm t))) := ⟨if_neg hbad, if_neg hbad, if_neg hbad⟩
    cases ho : L.over
    · rw [ho] at c6 hP
      rw [if_neg (show ¬ (false = true) by decide), if_neg (show ¬ (false = true) by decide), if_neg (show ¬ (false = true) by decide)] at hP
      have CR := room_any B db m lb s L v k w h hO hk hg hl
      have hR := room_ok (L := L) hO hl
      obtain ⟨r, hr0⟩ : ∃ r, roomP s L = r := ⟨_, rfl⟩
      rw [hr0] at CR hR hP
      obtain ⟨rk, re, rs, rL⟩ := r
      replace CR : Calls Tryd.prog 56 #[.pointer (some ⟨lb, 0, none⟩)] w fun e w' => e = .returned (.tuple #[.int .i64 rk, .int .i64 re]) ∧ WStep B db m lb v w rs rL w' := CR
      replace hP : wapE s L t = (if re ≠ 0 then re else appE rs (L.gen * 100 + rk) (frm t)) ∧ wapS s L t = (if re ≠ 0 then rs else appS rs (L.gen * 100 + rk) (frm t)) ∧ wapL s L t = (if re ≠ 0 then rL else addL ⟨rk, re, rs, rL⟩ t (appE rs (L.gen * 100 + rk) (frm t))) := hP
      have hgr : rL.gen = L.gen := hR.gen
      have hlr : rL.last = L.last := hR.last
      have hrr : rL.recs = L.recs := hR.recs
      have hpr : rL.pend = L.pend ∨ rL.pend = 0 := hR.pend
      have hok : Okk rs (k + 1) := hR.ok
      have hkr : 0 ≤ rk ∧ rk ≤ 1001 := hR.k
      have hpp : 0 ≤ rL.pend ∧ rL.pend ≤ 1000000 := by omega
      have hgL : 0 ≤ rL.gen ∧ rL.gen ≤ 100000 := by omega
      have hlen : rL.recs.length ≤ 1000000 := by rw [hrr]; exact hr
      rw [← hgr] at hP
      have CR := Lib.hid CR
      have HP := Lib.hid hP
      have HOk := Lib.hid hok
      have HW := Lib.hid h
      have CF := fun W hW => fOf_any t hts W hW
      have hfs := frm_size t
      obtain ⟨F, hF⟩ : ∃ F, frm t = F := ⟨_, rfl⟩
      rw [hF] at CF hfs
      have HFr := Lib.hid hF
      have CF := Lib.hid CF
      clear h hO hcs hbad hne hR hgr hlr hrr hpr hok hP hr0 hg hl hp hr ho hF
      by_cases hre : re = 0
      · obtain ⟨no, hno⟩ : ∃ no, no = rL.gen * 100 + rk := ⟨_, rfl⟩
        have hwr : IntKind.i64.wrap (rL.gen * 100 + rk) = no := by rw [IntKind.wrap_i64]; omega
        have HWR := Lib.hid hwr
        have hP := HP.out
        rw [if_neg (fun h => h hre), if_neg (fun h => h hre), if_neg (fun h => h hre), HFr.out, ← hno] at hP
        have hcy : ∀ V, DInv B db m rs V → Calls Tryd.prog 58 #[.pointer (some ⟨db, 0, none⟩), .int .i64 no, .string F] V fun e w' => e = .returned (.int .i64 (appE rs no F)) ∧ DStep B db m V (appS rs no F) w' := fun V hV => append_any B db m rs no F V hV (HOk.out.bd (by omega)) (by omega)
        obtain ⟨E, hE⟩ : ∃ E, appE rs no F = E := ⟨_, rfl⟩
        obtain ⟨s1, hs9⟩ : ∃ s1, appS rs no F = s1 := ⟨_, rfl⟩
        simp only [hE, hs9] at hcy hP
        replace HP := Lib.hid hP
        have HCY := Lib.hid hcy
        clear hP hcy hE hs9 hwr hno
        subst hre
        go_enter Tryd.func33, Tryd.ntmps33
        go_upto_region 13 with (first | (go_at_call 56; refine CR.out.mono ?_; rintro e w5 ⟨rfl, hs5⟩; obtain ⟨v1, hw5, hf5⟩ := hs5.get; have HW5 := Lib.hid hw5; have HF5 := Lib.hid hf5; clear hs5 hw5 hf5) | (go_at_call 20; refine Calls.mono (CF.out _ (Lib.hid HW5.out.t.tab)) ?_; rintro e w7 ⟨rfl, hb7⟩))
        have HWn := Lib.hid (HW5.out.low hb7)
        have HF7 := Lib.hid (HF5.out.low hb7)
        clear hb7 c6 hlt
        have c0 := HWn.out.l.cs.1
        have c1 := HWn.out.l.cs.2.1
        have c4 := HWn.out.l.cs.2.2.2.2.1
        have hlt := HWn.out.l.lt
        have HWd : Hid (WInv B db m lb rs rL v1 w7.drew) := Lib.hid (HWn.out.low (G.bdrewN (Below.refl _ _) 1))
        have CY : Hid (Calls Tryd.prog 58 #[.pointer (some ⟨db, 0, none⟩), .int .i64 no, .string F] w7.drew fun e w' => e = .returned (.int .i64 E) ∧ DStep B db m w7.drew s1 w') := Lib.hid (HCY.out _ HWd.out.t.d)
        have HF0 : Hid (WF db m lb v w v1 w7.drew) := Lib.hid (HF7.out.low (G.bdrewN (Below.refl _ _) 1))
        refine wp_region_held_drew (S := LCel db lb rL) (by kernel_rfl) ⟨c0, c1, c4⟩ (fun hS0 => ?_)
        refine tk 0 41 (.pointer (some ⟨lb, 0, none⟩)) ?_
        try simp only [s1, s2, s3]
        refine tk 1 42 (.pointer (some ⟨lb, 0, none⟩)) ?_
        try simp only [s1, s2, s3]
        refine tk 2 43 (.pointer (some ⟨lb, 0, none⟩)) ?_
        try simp only [s1, s2, s3]
        refine tk 3 44 (.pointer (some ⟨lb, 0, none⟩)) ?_
        try simp only [s1, s2, s3]
        refine tk 4 45 (.pointer (some ⟨db, 0, none⟩)) ?_ (hv := by (intro V hV; have c0 := hV.c0; clear hV; go_simp; try rfl))
        try simp only [s1, s2, s3]
        refine tk 5 46 (.pointer (some ⟨lb, 0, none⟩)) ?_
        try simp only [s1, s2, s3]
        refine tk 6 47 (.pointer (some ⟨lb, 0, none⟩)) ?_
        try simp only [s1, s2, s3]
        refine tk 7 48 (.pointer (some ⟨lb, 1, none⟩)) ?_
        try simp only [s1, s2, s3]
        refine tk 8 49 (.int .i64 rL.gen) ?_ (hv := by (intro V hV; have c1 := hV.c1; clear hV; go_simp; try rfl))
        try simp only [s1, s2, s3]
        refine tk 10 51 (.int .i64 rk) ?_
        try simp only [s1, s2, s3]
        refine tk 12 53 (.string F) ?_
        try simp only [s1, s2, s3]
        refine wpAnyH_ready (rs := [9]) (by kernel_rfl) (by simp) ?_
        refine AllReadyH.cons rfl (fun K hK => ?_) ?_
        · rw [if_pos (by rfl)]
          go_simp
          go_at_call 53
          refine (begin_any rL.gen hgL _).mono ?_
          rintro e w9 ⟨rfl, rfl⟩
          dsimp only
          refine hK.out _ _ ((by assumption)) (fun hHeld => ?_)
          clear hK K
          try simp only [Act.put, s1, s2, s3]
          refine tk 11 52 (.int .i64 no) ?_ (hv := by (intro V hV; clear hV; go_simp; first | exact HWR.out | rw [HWR.out] | (rw [HWR.out]; rfl)))
          try simp only [s1, s2, s3]
          refine wpAnyH_ready (rs := [13]) (by kernel_rfl) (by simp) ?_
          refine AllReadyH.cons rfl (fun K hK => ?_) ?_
          · rw [if_pos (by rfl)]
            go_simp
            go_at_call 58
            refine CY.out.mono ?_
            rintro e w2 ⟨rfl, hs2⟩
            have HW2 := Lib.hid (WInv.dstep (HWd.out) hs2)
            have HS2 := Lib.hid hs2
            clear hs2
            dsimp only
            refine hK.out _ _ (HW2.out.see) (fun hHeld => ?_)
            clear hK K
            try simp only [Act.put, s1, s2, s3]
            refine wpAnyH_ready (rs := [14]) (by kernel_rfl) (by simp) ?_
            refine AllReadyH.cons rfl (fun K hK => ?_) ?_
            · rw [if_pos (by rfl)]
              go_simp
              go_at_call 57
              refine (end_any B db m lb s1 rL v1 E _ HW2.out).mono ?_
              rintro e w3 ⟨rfl, hs3⟩
              obtain ⟨v3, hw3, hf3⟩ := hs3.get
              have HW3 := Lib.hid hw3
              have HF3 := Lib.hid hf3
              clear hs3 hw3 hf3
              dsimp only
              refine hK.out _ _ (HW3.out.see) (fun hHeld => ?_)
              clear hK K
              try simp only [Act.put, s1, s2, s3]
              refine tk 15 8 (.int .i64 E) ?_
              try simp only [s1, s2, s3]
              refine wpAnyH_done (by kernel_rfl) ?_ _
              repeat clear hHeld
              clear hS0
              try dsimp only
              have HF4 := Lib.hid (((HF0.out).disk HS2.out).trans HF3.out)
              clear c0 c1 c4 hlt
              have c4 := HW3.out.l.cs.2.2.2.2.1
              have f4 := HW3.out.l.free 4
              have hlt := HW3.out.l.lt
              by_cases hE0 : E = 0
              · subst hE0
                have hz4 := HF4.out.cat (HW3.out.seti (L' := { endL rL 0 with last := rk }) 4 (.int .i64 rk) rfl rfl)
                go_upto_region 17 with (fail)
                generalize w3.setCell ⟨lb, 4, none⟩ (.int .i64 rk) = w4 at *
                obtain ⟨v4, hw4, hf4⟩ := hz4.get
                have HW4 := Lib.hid hw4
                have HF5' := Lib.hid hf4
                clear c4 f4 hlt hw4 hf4 hz4
                have c3 := HW4.out.l.cs.2.2.2.1
                have hlt := HW4.out.l.lt
                have hba : Below w4.heap.size w4 (w4.alloc (.cells #[.string t] 9)) := bel_allocT _ _
                have HWa := Lib.hid (HW4.out.low hba)
                have HFa := Lib.hid (HF5'.out.low hba)
                have HX := Lib.hid (World.ownsRow_lit (base := 0) (e := 9) (size := 1) w4 #[.string t] 1 (Nat.zero_le _) (by unfold maxLen; omega) rfl)
                have c3a := HWa.out.l.cs.2.2.2.1
                have hlta := HWa.out.l.lt
                have HB : Hid (B ≤ (w4.alloc (.cells #[.string t] 9)).heap.size) := Lib.hid (Nat.le_trans HWa.out.l.hB (Nat.le_of_lt hlta))
                clear hba
                go_upto_region 18 with (at_builtin; refine app_own rfl (.tmp 67) (.tmp 69) 41 9 rfl B 0 1 16 _ Tryd.underlying41 info9 rfl (by decide) v4 rL.recs.length (strs rL.recs) rfl HWa.out.l.row (.slice (some ⟨w4.heap.size, 0, none⟩) 1 1) 1 [.string t] rfl HX.out (one_str t) (by unfold maxLen; omega) (by omega) HB.out ?_; intro v5 w5 hown5 hg5 hat5; obtain ⟨A5, q5, rfl⟩ := owns_shape hown5; have hst5 := HWa.out.setrow _ (rL.recs ++ [t]) (rL.recs.length + 1) (by simp) hg5 (by rw [strs_append]; exact hown5) hat5; have hgr := HWa.out.grown hg5; have c3 := (hgr.1 3).trans c3a; have f3 := hgr.2.1 3; have hlt := hgr.2.2; have HSt5 := Lib.hid hst5; clear hown5 hg5 hat5 hst5 hgr c3a hlta)
                have hst5 := HFa.out.cat HSt5.out
                generalize w5.setCell ⟨lb, 3, none⟩ (.slice A5 (rL.recs.length + 1) q5) = w6 at *
                obtain ⟨v6, hw6, hf6⟩ := hst5.get
                have HW6 := Lib.hid hw6
                have HF6 := Lib.hid hf6
                clear c3 f3 hlt hw6 hf6 hst5
                have c5 := HW6.out.l.cs.2.2.2.2.2.1
                replace c5 : w6.cell? ⟨lb, 5, none⟩ = some (.int .i64 rL.pend) := c5
                have f5 := HW6.out.l.free 5
                have hlt := HW6.out.l.lt
                have HZ := Lib.hid (HF6.out.cat (HW6.out.seti (L' := { endL rL 0 with last := rk, recs := rL.recs ++ [t], pend := rL.pend + 1 }) 5 (.int .i64 (rL.pend + 1)) rfl rfl))
                go_wp2_with (fail)
                go_ret
                rw [HP.out.1, HP.out.2.1, HP.out.2.2, addL, if_neg (show ¬ ((0 : Int) ≠ 0) by decide)]
                exact ⟨rfl, HZ.out⟩
              · have hE1 : (E != 0) = true := by simpa using hE0
                have HE0 := Lib.hid hE0
                clear hE0
                go_wp2_with (fail)
                go_ret
                rw [HP.out.1, HP.out.2.1, HP.out.2.2, addL, if_pos HE0.out]
                exact ⟨rfl, HF4.out.mk' HW3.out⟩
            exact AllReadyH.nil
          exact AllReadyH.nil
        exact AllReadyH.nil
      · have hP := HP.out
        rw [if_pos hre, if_pos hre, if_pos hre] at hP
        replace HP := Lib.hid hP
        have hre1 : (re != 0) = true := by simpa using hre
        clear hP hre
        go_enter Tryd.func33, Tryd.ntmps33
        go_wp2_with (go_at_call 56; refine CR.out.mono ?_; rintro e w5 ⟨rfl, hs5⟩; have HS5 := Lib.hid hs5; clear hs5)
        go_ret
        rw [HP.out.1, HP.out.2.1, HP.out.2.2]
        exact ⟨rfl, HS5.out⟩
    · rw [ho] at c6 hP
      rw [if_pos rfl, if_pos rfl, if_pos rfl] at hP
      have HP := Lib.hid hP
      have HZ := Lib.hid (WStep.same h (Below.refl _ _))
      clear h hO hcs hbad hne hP ho
      go_enter Tryd.func33, Tryd.ntmps33
      go_wp2
      go_ret
      rw [HP.out.1, HP.out.2.1, HP.out.2.2]
      exact ⟨rfl, HZ.out⟩
set_option maxHeartbeats 1000000 in
theorem Records_any (B db m lb : Nat) (s : DS) (L : LS) (v : Value) (w : World) (h : WInv B db m lb s L v w) (hr : L.recs.length ≤ 1000000) :
    Calls Tryd.prog 37 #[.pointer (some ⟨lb, 0, none⟩)] w fun e w' => ∃ v', e = .returned v' ∧ w'.ownsRow w.heap.size 9 1 v' L.recs.length (strs L.recs) ∧ Below w.heap.size w w' := by
  have c3 := h.l.cs.2.2.2.1
  have hlt := h.l.lt
  obtain ⟨hl, ⟨hv, hn⟩ | ⟨g, cap, cur, hv, _, _, hnc, _⟩⟩ := h.l.row
  · have hrec : L.recs = [] := List.eq_nil_of_length_eq_zero hn
    have HZ : Hid (L.recs.length = 0 ∧ strs L.recs = []) := Lib.hid (by rw [hrec]; exact ⟨rfl, rfl⟩)
    rw [hv] at c3
    clear h hv hn hl hrec
    go_enter Tryd.func37, Tryd.ntmps37
    go_wp2_with (go_at_call 61; refine (Tryd.slices_Clone_string_nil 0 0 w).mono ?_; rintro e w1 ⟨rfl, rfl⟩)
    go_ret
    rw [HZ.out.1, HZ.out.2]
    exact ⟨_, rfl, G.owns_nil _ _ _ _, Below.refl _ _⟩
  · have hh := G.HasRow.of_owns h.l.row
    rw [hv] at hh c3
    have CC := Tryd.slices_Clone_string g 0 L.recs.length cap L.recs w (Nat.le_refl _) (by omega) (fun j hj => by
      obtain ⟨_, A, c, hvv, _, _, hc⟩ := hh
      cases hvv
      obtain ⟨ad, ha, hcell⟩ := hc j (.string L.recs[j]) (strs_getElem _ _ hj)
      cases ha
      rw [G.add_plain] at hcell
      rw [hcell]
      simp [hj])
    rw [List.take_length] at CC
    have CC := Lib.hid CC
    clear h hh hv hl hnc
    go_enter Tryd.func37, Tryd.ntmps37
    go_wp2_with (go_at_call 61; refine CC.out.mono ?_; rintro e w1 ⟨v', rfl, ho, _, hb⟩; have HO := Lib.hid ho; clear ho)
    go_ret
    exact ⟨_, rfl, HO.out, hb⟩
end Go.Proofs.YtdmjbdecemajpaaDoor.D
