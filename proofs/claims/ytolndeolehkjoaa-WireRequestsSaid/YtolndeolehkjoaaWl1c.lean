/- The walk of WireRequests. -/
import Derived.Test.YtolndeolehkjoaaWq7c
import Derived.Test.YtolndeolehkjoaaWq9c
import Derived.Test.YtolndeolehkjoaaRo1c
namespace Go.Proofs.Ytolndeolehkjoaa
set_option linter.unusedVariables false
set_option linter.unusedSimpArgs false
open Go.RowKit CodP
theorem bytesRq_le (q : Rq) (h : RightF q) : (bytesRq q).size ≤ 20001 := by
  unfold bytesRq
  by_cases h1 : q.op = 1 ∨ q.op = 2
  · rw [if_pos h1, ByteArray.size_append, bB_size]
    have := bytesS_le q.ob (h.ob (by omega))
    omega
  · have := h.op
    have := h.name (by omega)
    rw [if_neg h1]
    split
    · simp only [ByteArray.size_append, bB_size, bT_size, num8_size]; omega
    split
    · simp only [ByteArray.size_append, bB_size, bT_size]; omega
    · simp only [ByteArray.size_append, bB_size]; omega
theorem bool_ne (b : Bool) : (b != b) = false := by cases b <;> rfl
set_option maxRecDepth 100000 in
set_option maxHeartbeats 8000000 in
theorem wreq_long (q : Rq) (f l c p i : Sl) (hz : RqSz q) (hlo : longO q.ob = true) (w : World) (hr : RowsR w q.ob f l c p i) :
    Calls Try.prog 8 #[.agg (rq q f l c p i)] w fun y w' => y = .returned (.bool true) ∧ Below w.heap.size w w' := by
  have HLO := Lib.hid hlo
  clear hlo
  obtain ⟨w1, hw1, b1, p1⟩ := one_rq w (rq q f l c p i)
  obtain ⟨x, hx⟩ : ∃ x, x = w.heap.size := ⟨_, rfl⟩
  rw [← hx] at p1
  have HW := Lib.hid hw1
  have B1 := Lib.hid b1
  have P1 := Lib.hid p1
  have R1 := Lib.hid (hr.below b1)
  have HZ := Lib.hid hz
  clear hr hz b1 p1 hw1
  go_enter Try.func8, Try.ntmps8
  go_upto_region 1 with (fail)
  rw [← HW.out, ← hx]
  clear hx
  go_upto_region 3 with (go_at_call 24; refine (awakew_any _).mono ?_; rintro e w2 ⟨rfl, hb2⟩)
  have P2 := Lib.hid ((hb2.block x (Array.getElem?_eq_some_iff.1 P1.out).1).trans P1.out)
  have B2 := Lib.hid (B1.out.trans (belowLe B1.out.size hb2))
  have R2 := Lib.hid (R1.out.below hb2)
  clear hb2
  repeat (first | ((refine wpList_load_elem rfl (.tmp 9) rfl x 1 rfl ⟨q.ob, f, l, c, p, i⟩ (rq_mid P2.out) ?_); (try simp only [Act.put, s1, s2, s3])) | go_values | go_skip | go_guarded | go_step)
  go_wp2_with (fail)
  refine (long_any q.ob f l c p i HZ.out.ob w2 R2.out).mono ?_
  rw [HLO.out]
  rintro e w3 ⟨rfl, hb3⟩
  have P3 := Lib.hid ((hb3.block x (Array.getElem?_eq_some_iff.1 P2.out).1).trans P2.out)
  have B3 := Lib.hid (B2.out.trans (belowLe B2.out.size hb3))
  have R3 := Lib.hid (R2.out.below hb3)
  clear hb3
  go_wp2
  go_ret
  exact ⟨rfl, B3.out⟩
set_option maxRecDepth 100000 in
set_option maxHeartbeats 8000000 in
theorem wreq_name (q : Rq) (f l c p i : Sl) (hz : RqSz q) (hlo : longO q.ob = false) (hn : ¬ q.name.size ≤ 1000) (w : World) (hr : RowsR w q.ob f l c p i) :
    Calls Try.prog 8 #[.agg (rq q f l c p i)] w fun y w' => y = .returned (.bool true) ∧ Below w.heap.size w w' := by
  have HLO := Lib.hid hlo
  clear hlo
  have dn : decide ((1000 : Int) < q.name.size) = true := decide_eq_true (by omega)
  have hnz := hz.name
  clear hn
  obtain ⟨w1, hw1, b1, p1⟩ := one_rq w (rq q f l c p i)
  obtain ⟨x, hx⟩ : ∃ x, x = w.heap.size := ⟨_, rfl⟩
  rw [← hx] at p1
  have HW := Lib.hid hw1
  have B1 := Lib.hid b1
  have P1 := Lib.hid p1
  have R1 := Lib.hid (hr.below b1)
  have HZ := Lib.hid hz
  clear hr hz b1 p1 hw1
  go_enter Try.func8, Try.ntmps8
  go_upto_region 1 with (fail)
  rw [← HW.out, ← hx]
  clear hx
  go_upto_region 3 with (go_at_call 24; refine (awakew_any _).mono ?_; rintro e w2 ⟨rfl, hb2⟩)
  have P2 := Lib.hid ((hb2.block x (Array.getElem?_eq_some_iff.1 P1.out).1).trans P1.out)
  have B2 := Lib.hid (B1.out.trans (belowLe B1.out.size hb2))
  have R2 := Lib.hid (R1.out.below hb2)
  clear hb2
  repeat (first | ((refine wpList_load_elem rfl (.tmp 9) rfl x 1 rfl ⟨q.ob, f, l, c, p, i⟩ (rq_mid P2.out) ?_); (try simp only [Act.put, s1, s2, s3])) | go_values | go_skip | go_guarded | go_step)
  go_wp2_with (fail)
  refine (long_any q.ob f l c p i HZ.out.ob w2 R2.out).mono ?_
  rw [HLO.out]
  rintro e w3 ⟨rfl, hb3⟩
  have P3 := Lib.hid ((hb3.block x (Array.getElem?_eq_some_iff.1 P2.out).1).trans P2.out)
  have B3 := Lib.hid (B2.out.trans (belowLe B2.out.size hb3))
  have R3 := Lib.hid (R2.out.below hb3)
  clear hb3
  have c21 : w3.cell? ⟨x, 21, none⟩ = some (.string q.name) := by have h := P3.out; simp [World.cell?, h, rq]
  go_wp2
  go_ret
  exact ⟨rfl, B3.out⟩
set_option maxRecDepth 100000 in
set_option maxHeartbeats 8000000 in
theorem wreq_false (q : Rq) (f l c p i : Sl) (hz : RqSz q) (hlo : longO q.ob = false) (hn : q.name.size ≤ 1000) (hrb : rightB q = false) (w : World) (hr : RowsR w q.ob f l c p i) :
    Calls Try.prog 8 #[.agg (rq q f l c p i)] w fun y w' => y = .returned (.bool true) ∧ Below w.heap.size w w' := by
  have HLO := Lib.hid hlo
  have hle := long_le q.ob hlo
  have HSZ := Lib.hid (show q.ob.fins.length ≤ 1000000 ∧ q.ob.labels.length ≤ 1000000 ∧ q.ob.cidrs.length ≤ 1000000 ∧ q.ob.fams.length ≤ 1000000 ∧ q.ob.ips.length ≤ 1000000 by omega)
  have RB := Lib.hid hrb
  have hpk : packRq q = (⟨#[]⟩, 4) := by unfold packRq; rw [hrb]; rfl
  have HPK := Lib.hid hpk
  have dn : decide ((1000 : Int) < q.name.size) = false := decide_eq_false (by omega)
  have hnz := hz.name
  obtain ⟨sb, hsb⟩ : ∃ sb, sb = sameRq q (onlyR q) := ⟨_, rfl⟩
  have SB := Lib.hid hsb
  clear hlo hle hrb hpk hn hsb
  obtain ⟨w1, hw1, b1, p1⟩ := one_rq w (rq q f l c p i)
  obtain ⟨x, hx⟩ : ∃ x, x = w.heap.size := ⟨_, rfl⟩
  rw [← hx] at p1
  have HW := Lib.hid hw1
  have B1 := Lib.hid b1
  have P1 := Lib.hid p1
  have R1 := Lib.hid (hr.below b1)
  have HZ := Lib.hid hz
  clear hr hz b1 p1 hw1
  go_enter Try.func8, Try.ntmps8
  go_upto_region 1 with (fail)
  rw [← HW.out, ← hx]
  clear hx
  go_upto_region 3 with (go_at_call 24; refine (awakew_any _).mono ?_; rintro e w2 ⟨rfl, hb2⟩)
  have P2 := Lib.hid ((hb2.block x (Array.getElem?_eq_some_iff.1 P1.out).1).trans P1.out)
  have B2 := Lib.hid (B1.out.trans (belowLe B1.out.size hb2))
  have R2 := Lib.hid (R1.out.below hb2)
  clear hb2
  repeat (first | ((refine wpList_load_elem rfl (.tmp 9) rfl x 1 rfl ⟨q.ob, f, l, c, p, i⟩ (rq_mid P2.out) ?_); (try simp only [Act.put, s1, s2, s3])) | go_values | go_skip | go_guarded | go_step)
  go_wp2_with (fail)
  refine (long_any q.ob f l c p i HZ.out.ob w2 R2.out).mono ?_
  rw [HLO.out]
  rintro e w3 ⟨rfl, hb3⟩
  have P3 := Lib.hid ((hb3.block x (Array.getElem?_eq_some_iff.1 P2.out).1).trans P2.out)
  have B3 := Lib.hid (B2.out.trans (belowLe B2.out.size hb3))
  have R3 := Lib.hid (R2.out.below hb3)
  clear hb3
  have c21 : w3.cell? ⟨x, 21, none⟩ = some (.string q.name) := by have h := P3.out; simp [World.cell?, h, rq]
  go_upto_region 5 with (fail)
  clear c21 dn hnz
  go_wp2_with (refine wpList_load_row rfl 51 (.tmp 1) rfl x rfl 51 _ (0, 0) _ P3.out Try.underlying51 rfl size51 ?_)
  refine (pkr_any q f l c p i HSZ.out w3 R3.out).mono ?_
  rw [HPK.out]
  rintro e w4 ⟨rfl, hb4⟩
  have P4 := Lib.hid ((hb4.block x (Array.getElem?_eq_some_iff.1 P3.out).1).trans P3.out)
  have B4 := Lib.hid (B3.out.trans (belowLe B3.out.size hb4))
  have R4 := Lib.hid (R3.out.below hb4)
  clear hb4
  have L4 := Lib.hid (Array.getElem?_eq_some_iff.1 P4.out).1
  go_upto_region 6 with (fail)
  refine wp_region_held_drew (S := fun V => V.heap[x]? = some (.cells (rq q f l c p i) 51 (0, 0)) ∧ Below w4.heap.size w4 V) (by kernel_rfl) ⟨P4.out, ⟨rfl, rfl, rfl, Nat.le_refl _, fun _ _ => rfl⟩⟩ (fun hS0 => ?_)
  refine tk 0 23 (.agg (rq q f l c p i)) ?_ (hv := by exact load_row_yields 51 (.tmp 1) rfl x rfl 51 (rq q f l c p i) (0, 0) _ (fun V hV => hV.1) Try.underlying51 rfl size51); (try simp only [s1, s2, s3]); refine tk 2 25 (.agg (rq q f l c p i)) ?_ (hv := by exact load_row_yields 51 (.tmp 1) rfl x rfl 51 (rq q f l c p i) (0, 0) _ (fun V hV => hV.1) Try.underlying51 rfl size51); (try simp only [s1, s2, s3])
  refine wpAnyH_ready (rs := [1]) (by kernel_rfl) (by simp) ?_
  refine AllReadyH.cons rfl (fun K hK => ?_) ?_
  · rw [if_pos (by rfl)]
    go_simp
    go_at_call 26
    refine (right26_any q f l c p i HSZ.out _ (R4.out.below (And.right (by assumption)))).mono ?_
    rw [RB.out]
    rintro e v1 ⟨rfl, hb1⟩
    dsimp only
    refine hK.out _ _ (keepQ L4.out (by assumption) hb1) (fun hHeld => ?_)
    clear hK K; try simp only [Act.put, s1, s2, s3]
    refine wpAnyH_ready (rs := [3]) (by kernel_rfl) (by simp) ?_
    refine AllReadyH.cons rfl (fun K hK => ?_) ?_
    · rw [if_pos (by rfl)]
      go_simp
      go_at_call 27
      refine (right27_any q f l c p i HSZ.out _ (R4.out.below (And.right (by assumption)))).mono ?_
      rw [RB.out]
      rintro e v2 ⟨rfl, hb2⟩
      dsimp only
      refine hK.out _ _ (keepQ L4.out (by assumption) hb2) (fun hHeld => ?_)
      clear hK K; try simp only [Act.put, s1, s2, s3]
      refine tk 4 27 (.bool false) ?_; (try simp only [s1, s2, s3]); refine tk 5 28 (.bool false) ?_; (try simp only [s1, s2, s3]); refine tk 6 29 (.agg (rq q f l c p i)) ?_ (hv := by exact load_row_yields 51 (.tmp 1) rfl x rfl 51 (rq q f l c p i) (0, 0) _ (fun V hV => hV.1) Try.underlying51 rfl size51); (try simp only [s1, s2, s3]); refine tk 7 30 (.agg (rq q f l c p i)) ?_ (hv := by exact load_row_yields 51 (.tmp 1) rfl x rfl 51 (rq q f l c p i) (0, 0) _ (fun V hV => hV.1) Try.underlying51 rfl size51); (try simp only [s1, s2, s3])
      refine wpAnyH_ready (rs := [8]) (by kernel_rfl) (by simp) ?_
      refine AllReadyH.cons rfl (fun K hK => ?_) ?_
      · rw [if_pos (by rfl)]
        go_simp
        go_at_call 28
        refine (samerq_any q q f l c p i f l c p i HSZ.out _ (R4.out.below (And.right (by assumption))) (R4.out.below (And.right (by assumption)))).mono ?_
        rw [sameRq_self]
        rintro e v3 ⟨rfl, hb3⟩
        dsimp only
        refine hK.out _ _ (keepQ L4.out (by assumption) hb3) (fun hHeld => ?_)
        clear hK K; try simp only [Act.put, s1, s2, s3]
        refine tk 9 32 (.bool false) ?_; (try simp only [s1, s2, s3]); refine tk 10 33 (.bool false) ?_; (try simp only [s1, s2, s3]); refine tk 11 34 (.bool false) ?_; (try simp only [s1, s2, s3]); refine tk 12 35 (.agg (rq q f l c p i)) ?_ (hv := by exact load_row_yields 51 (.tmp 1) rfl x rfl 51 (rq q f l c p i) (0, 0) _ (fun V hV => hV.1) Try.underlying51 rfl size51); (try simp only [s1, s2, s3]); refine tk 13 36 (.agg (rq q f l c p i)) ?_ (hv := by exact load_row_yields 51 (.tmp 1) rfl x rfl 51 (rq q f l c p i) (0, 0) _ (fun V hV => hV.1) Try.underlying51 rfl size51); (try simp only [s1, s2, s3]); refine tk 16 39 (.agg (rq q f l c p i)) ?_ (hv := by exact load_row_yields 51 (.tmp 1) rfl x rfl 51 (rq q f l c p i) (0, 0) _ (fun V hV => hV.1) Try.underlying51 rfl size51); (try simp only [s1, s2, s3]); refine tk 17 40 (.agg (rq q f l c p i)) ?_ (hv := by exact load_row_yields 51 (.tmp 1) rfl x rfl 51 (rq q f l c p i) (0, 0) _ (fun V hV => hV.1) Try.underlying51 rfl size51); (try simp only [s1, s2, s3])
        refine wpAnyH_ready (rs := [14]) (by kernel_rfl) (by simp) ?_
        refine AllReadyH.cons rfl (fun K hK => ?_) ?_
        · rw [if_pos (by rfl)]
          go_simp
          go_at_call 29
          refine (onlyr_any q f l c p i _ (R4.out.below (And.right (by assumption)))).mono ?_
          rintro e v4 ⟨f4, l4, c4, p4, i4, rfl, ro4, hb4⟩
          dsimp only
          refine hK.out _ _ (keepQ L4.out (by assumption) hb4) (fun hHeld => ?_)
          clear hK K; try simp only [Act.put, s1, s2, s3]
          refine wpAnyH_ready (rs := [15]) (by kernel_rfl) (by simp) ?_
          refine AllReadyH.cons rfl (fun K hK => ?_) ?_
          · rw [if_pos (by rfl)]
            go_simp
            go_at_call 28
            refine (samerq_any q (onlyR q) f l c p i f4 l4 c4 p4 i4 HSZ.out _ (R4.out.below (And.right (by assumption))) ro4).mono ?_
            rw [← SB.out]
            rintro e v5 ⟨rfl, hb5⟩
            dsimp only
            refine hK.out _ _ (keepQ L4.out (by assumption) hb5) (fun hHeld => ?_)
            clear hK K; try simp only [Act.put, s1, s2, s3]
            refine wpAnyH_ready (rs := [18]) (by kernel_rfl) (by simp) ?_
            refine AllReadyH.cons rfl (fun K hK => ?_) ?_
            · rw [if_pos (by rfl)]
              go_simp
              go_at_call 29
              refine (onlyr_any q f l c p i _ (R4.out.below (And.right (by assumption)))).mono ?_
              rintro e v6 ⟨f6, l6, c6, p6, i6, rfl, ro6, hb6⟩
              dsimp only
              refine hK.out _ _ (keepQ L4.out (by assumption) hb6) (fun hHeld => ?_)
              clear hK K; try simp only [Act.put, s1, s2, s3]
              refine wpAnyH_ready (rs := [19]) (by kernel_rfl) (by simp) ?_
              refine AllReadyH.cons rfl (fun K hK => ?_) ?_
              · rw [if_pos (by rfl)]
                go_simp
                go_at_call 30
                refine (rsamerq_any q (onlyR q) f l c p i f6 l6 c6 p6 i6 HSZ.out _ (R4.out.below (And.right (by assumption))) ro6).mono ?_
                rw [← SB.out]
                rintro e v7 ⟨rfl, hb7⟩
                dsimp only
                refine hK.out _ _ (keepQ L4.out (by assumption) hb7) (fun hHeld => ?_)
                clear hK K; try simp only [Act.put, s1, s2, s3]
                refine tk 20 43 (.bool false) ?_ (hv := by (intro V hV; clear hV; have bn := bool_ne sb; go_simp; try rfl)); (try simp only [s1, s2, s3]); refine tk 21 44 (.bool false) ?_; (try simp only [s1, s2, s3])
                refine wpAnyH_done (by kernel_rfl) ?_ _
                have P5 := Lib.hid hHeld.1
                have B5 := Lib.hid (B4.out.trans (belowLe B4.out.size hHeld.2))
                have R5 := Lib.hid (R4.out.below hHeld.2)
                repeat clear hHeld
                clear hS0
                go_upto_region 8 with (fail)
                go_wp2_with (refine wpList_load_row rfl 51 (.tmp 1) rfl x rfl 51 _ (0, 0) _ P5.out Try.underlying51 rfl size51 ?_)
                refine (right27_any q f l c p i HSZ.out _ R5.out).mono ?_
                rw [RB.out]
                rintro e w6 ⟨rfl, hb6⟩
                have P6 := Lib.hid ((hb6.block x (Array.getElem?_eq_some_iff.1 P5.out).1).trans P5.out)
                have B6 := Lib.hid (B5.out.trans (belowLe B5.out.size hb6))
                have R6 := Lib.hid (R5.out.below hb6)
                clear hb6
                have e0 : (⟨#[]⟩ : ByteArray).toList.isEmpty = true := by decide +kernel
                go_wp2
                go_ret
                exact ⟨rfl, B6.out⟩
              exact AllReadyH.nil
            exact AllReadyH.nil
          exact AllReadyH.nil
        exact AllReadyH.nil
      exact AllReadyH.nil
    exact AllReadyH.nil
  exact AllReadyH.nil
set_option maxRecDepth 100000 in
set_option maxHeartbeats 8000000 in
theorem wreq_true (q : Rq) (f l c p i : Sl) (hz : RqSz q) (hlo : longO q.ob = false) (hn : q.name.size ≤ 1000) (hrb : rightB q = true) (w : World) (hr : RowsR w q.ob f l c p i) :
    Calls Try.prog 8 #[.agg (rq q f l c p i)] w fun y w' => y = .returned (.bool true) ∧ Below w.heap.size w w' := by
  have HLO := Lib.hid hlo
  have hle := long_le q.ob hlo
  have HSZ := Lib.hid (show q.ob.fins.length ≤ 1000000 ∧ q.ob.labels.length ≤ 1000000 ∧ q.ob.cidrs.length ≤ 1000000 ∧ q.ob.fams.length ≤ 1000000 ∧ q.ob.ips.length ≤ 1000000 by omega)
  have RB := Lib.hid hrb
  have hpk : packRq q = (bytesRq q, 0) := by unfold packRq; rw [hrb]; rfl
  have HPK := Lib.hid hpk
  have dn : decide ((1000 : Int) < q.name.size) = false := decide_eq_false (by omega)
  have hnz := hz.name
  obtain ⟨sb, hsb⟩ : ∃ sb, sb = sameRq q (onlyR q) := ⟨_, rfl⟩
  have SB := Lib.hid hsb
  have hf := rightF hrb
  have HF := Lib.hid hf
  have hbl := bytesRq_le q hf
  have hbk := req_back q hrb
  have HBK := Lib.hid hbk
  obtain ⟨tb, htb⟩ : ∃ tb, tb = bytesRq q := ⟨_, rfl⟩
  rw [← htb] at hbl
  have HTB := Lib.hid htb
  have C31 := Lib.hid (fun V => unpackq_any tb (by omega) V)
  rw [htb, hbk, ← htb] at C31
  clear hf hbk htb
  clear hlo hle hrb hpk hn hsb
  obtain ⟨w1, hw1, b1, p1⟩ := one_rq w (rq q f l c p i)
  obtain ⟨x, hx⟩ : ∃ x, x = w.heap.size := ⟨_, rfl⟩
  rw [← hx] at p1
  have HW := Lib.hid hw1
  have B1 := Lib.hid b1
  have P1 := Lib.hid p1
  have R1 := Lib.hid (hr.below b1)
  have HZ := Lib.hid hz
  clear hr hz b1 p1 hw1
  go_enter Try.func8, Try.ntmps8
  go_upto_region 1 with (fail)
  rw [← HW.out, ← hx]
  clear hx
  go_upto_region 3 with (go_at_call 24; refine (awakew_any _).mono ?_; rintro e w2 ⟨rfl, hb2⟩)
  have P2 := Lib.hid ((hb2.block x (Array.getElem?_eq_some_iff.1 P1.out).1).trans P1.out)
  have B2 := Lib.hid (B1.out.trans (belowLe B1.out.size hb2))
  have R2 := Lib.hid (R1.out.below hb2)
  clear hb2
  repeat (first | ((refine wpList_load_elem rfl (.tmp 9) rfl x 1 rfl ⟨q.ob, f, l, c, p, i⟩ (rq_mid P2.out) ?_); (try simp only [Act.put, s1, s2, s3])) | go_values | go_skip | go_guarded | go_step)
  go_wp2_with (fail)
  refine (long_any q.ob f l c p i HZ.out.ob w2 R2.out).mono ?_
  rw [HLO.out]
  rintro e w3 ⟨rfl, hb3⟩
  have P3 := Lib.hid ((hb3.block x (Array.getElem?_eq_some_iff.1 P2.out).1).trans P2.out)
  have B3 := Lib.hid (B2.out.trans (belowLe B2.out.size hb3))
  have R3 := Lib.hid (R2.out.below hb3)
  clear hb3
  have c21 : w3.cell? ⟨x, 21, none⟩ = some (.string q.name) := by have h := P3.out; simp [World.cell?, h, rq]
  go_upto_region 5 with (fail)
  clear c21 dn hnz
  go_wp2_with (refine wpList_load_row rfl 51 (.tmp 1) rfl x rfl 51 _ (0, 0) _ P3.out Try.underlying51 rfl size51 ?_)
  refine (pkr_any q f l c p i HSZ.out w3 R3.out).mono ?_
  rw [HPK.out]
  rintro e w4 ⟨rfl, hb4⟩
  have P4 := Lib.hid ((hb4.block x (Array.getElem?_eq_some_iff.1 P3.out).1).trans P3.out)
  have B4 := Lib.hid (B3.out.trans (belowLe B3.out.size hb4))
  have R4 := Lib.hid (R3.out.below hb4)
  clear hb4
  dsimp only
  rw [← HTB.out]
  have L4 := Lib.hid (Array.getElem?_eq_some_iff.1 P4.out).1
  go_upto_region 6 with (fail)
  refine wp_region_held_drew (S := fun V => V.heap[x]? = some (.cells (rq q f l c p i) 51 (0, 0)) ∧ Below w4.heap.size w4 V) (by kernel_rfl) ⟨P4.out, ⟨rfl, rfl, rfl, Nat.le_refl _, fun _ _ => rfl⟩⟩ (fun hS0 => ?_)
  refine tk 0 23 (.agg (rq q f l c p i)) ?_ (hv := by exact load_row_yields 51 (.tmp 1) rfl x rfl 51 (rq q f l c p i) (0, 0) _ (fun V hV => hV.1) Try.underlying51 rfl size51); (try simp only [s1, s2, s3]); refine tk 2 25 (.agg (rq q f l c p i)) ?_ (hv := by exact load_row_yields 51 (.tmp 1) rfl x rfl 51 (rq q f l c p i) (0, 0) _ (fun V hV => hV.1) Try.underlying51 rfl size51); (try simp only [s1, s2, s3])
  refine wpAnyH_ready (rs := [1]) (by kernel_rfl) (by simp) ?_
  refine AllReadyH.cons rfl (fun K hK => ?_) ?_
  · rw [if_pos (by rfl)]
    go_simp
    go_at_call 26
    refine (right26_any q f l c p i HSZ.out _ (R4.out.below (And.right (by assumption)))).mono ?_
    rw [RB.out]
    rintro e v1 ⟨rfl, hb1⟩
    dsimp only
    refine hK.out _ _ (keepQ L4.out (by assumption) hb1) (fun hHeld => ?_)
    clear hK K; try simp only [Act.put, s1, s2, s3]
    refine wpAnyH_ready (rs := [3]) (by kernel_rfl) (by simp) ?_
    refine AllReadyH.cons rfl (fun K hK => ?_) ?_
    · rw [if_pos (by rfl)]
      go_simp
      go_at_call 27
      refine (right27_any q f l c p i HSZ.out _ (R4.out.below (And.right (by assumption)))).mono ?_
      rw [RB.out]
      rintro e v2 ⟨rfl, hb2⟩
      dsimp only
      refine hK.out _ _ (keepQ L4.out (by assumption) hb2) (fun hHeld => ?_)
      clear hK K; try simp only [Act.put, s1, s2, s3]
      refine tk 4 27 (.bool false) ?_; (try simp only [s1, s2, s3]); refine tk 5 28 (.bool false) ?_; (try simp only [s1, s2, s3]); refine tk 6 29 (.agg (rq q f l c p i)) ?_ (hv := by exact load_row_yields 51 (.tmp 1) rfl x rfl 51 (rq q f l c p i) (0, 0) _ (fun V hV => hV.1) Try.underlying51 rfl size51); (try simp only [s1, s2, s3]); refine tk 7 30 (.agg (rq q f l c p i)) ?_ (hv := by exact load_row_yields 51 (.tmp 1) rfl x rfl 51 (rq q f l c p i) (0, 0) _ (fun V hV => hV.1) Try.underlying51 rfl size51); (try simp only [s1, s2, s3])
      refine wpAnyH_ready (rs := [8]) (by kernel_rfl) (by simp) ?_
      refine AllReadyH.cons rfl (fun K hK => ?_) ?_
      · rw [if_pos (by rfl)]
        go_simp
        go_at_call 28
        refine (samerq_any q q f l c p i f l c p i HSZ.out _ (R4.out.below (And.right (by assumption))) (R4.out.below (And.right (by assumption)))).mono ?_
        rw [sameRq_self]
        rintro e v3 ⟨rfl, hb3⟩
        dsimp only
        refine hK.out _ _ (keepQ L4.out (by assumption) hb3) (fun hHeld => ?_)
        clear hK K; try simp only [Act.put, s1, s2, s3]
        refine tk 9 32 (.bool false) ?_; (try simp only [s1, s2, s3]); refine tk 10 33 (.bool false) ?_; (try simp only [s1, s2, s3]); refine tk 11 34 (.bool false) ?_; (try simp only [s1, s2, s3]); refine tk 12 35 (.agg (rq q f l c p i)) ?_ (hv := by exact load_row_yields 51 (.tmp 1) rfl x rfl 51 (rq q f l c p i) (0, 0) _ (fun V hV => hV.1) Try.underlying51 rfl size51); (try simp only [s1, s2, s3]); refine tk 13 36 (.agg (rq q f l c p i)) ?_ (hv := by exact load_row_yields 51 (.tmp 1) rfl x rfl 51 (rq q f l c p i) (0, 0) _ (fun V hV => hV.1) Try.underlying51 rfl size51); (try simp only [s1, s2, s3]); refine tk 16 39 (.agg (rq q f l c p i)) ?_ (hv := by exact load_row_yields 51 (.tmp 1) rfl x rfl 51 (rq q f l c p i) (0, 0) _ (fun V hV => hV.1) Try.underlying51 rfl size51); (try simp only [s1, s2, s3]); refine tk 17 40 (.agg (rq q f l c p i)) ?_ (hv := by exact load_row_yields 51 (.tmp 1) rfl x rfl 51 (rq q f l c p i) (0, 0) _ (fun V hV => hV.1) Try.underlying51 rfl size51); (try simp only [s1, s2, s3])
        refine wpAnyH_ready (rs := [14]) (by kernel_rfl) (by simp) ?_
        refine AllReadyH.cons rfl (fun K hK => ?_) ?_
        · rw [if_pos (by rfl)]
          go_simp
          go_at_call 29
          refine (onlyr_any q f l c p i _ (R4.out.below (And.right (by assumption)))).mono ?_
          rintro e v4 ⟨f4, l4, c4, p4, i4, rfl, ro4, hb4⟩
          dsimp only
          refine hK.out _ _ (keepQ L4.out (by assumption) hb4) (fun hHeld => ?_)
          clear hK K; try simp only [Act.put, s1, s2, s3]
          refine wpAnyH_ready (rs := [15]) (by kernel_rfl) (by simp) ?_
          refine AllReadyH.cons rfl (fun K hK => ?_) ?_
          · rw [if_pos (by rfl)]
            go_simp
            go_at_call 28
            refine (samerq_any q (onlyR q) f l c p i f4 l4 c4 p4 i4 HSZ.out _ (R4.out.below (And.right (by assumption))) ro4).mono ?_
            rw [← SB.out]
            rintro e v5 ⟨rfl, hb5⟩
            dsimp only
            refine hK.out _ _ (keepQ L4.out (by assumption) hb5) (fun hHeld => ?_)
            clear hK K; try simp only [Act.put, s1, s2, s3]
            refine wpAnyH_ready (rs := [18]) (by kernel_rfl) (by simp) ?_
            refine AllReadyH.cons rfl (fun K hK => ?_) ?_
            · rw [if_pos (by rfl)]
              go_simp
              go_at_call 29
              refine (onlyr_any q f l c p i _ (R4.out.below (And.right (by assumption)))).mono ?_
              rintro e v6 ⟨f6, l6, c6, p6, i6, rfl, ro6, hb6⟩
              dsimp only
              refine hK.out _ _ (keepQ L4.out (by assumption) hb6) (fun hHeld => ?_)
              clear hK K; try simp only [Act.put, s1, s2, s3]
              refine wpAnyH_ready (rs := [19]) (by kernel_rfl) (by simp) ?_
              refine AllReadyH.cons rfl (fun K hK => ?_) ?_
              · rw [if_pos (by rfl)]
                go_simp
                go_at_call 30
                refine (rsamerq_any q (onlyR q) f l c p i f6 l6 c6 p6 i6 HSZ.out _ (R4.out.below (And.right (by assumption))) ro6).mono ?_
                rw [← SB.out]
                rintro e v7 ⟨rfl, hb7⟩
                dsimp only
                refine hK.out _ _ (keepQ L4.out (by assumption) hb7) (fun hHeld => ?_)
                clear hK K; try simp only [Act.put, s1, s2, s3]
                refine tk 20 43 (.bool false) ?_ (hv := by (intro V hV; clear hV; have bn := bool_ne sb; go_simp; try rfl)); (try simp only [s1, s2, s3]); refine tk 21 44 (.bool false) ?_; (try simp only [s1, s2, s3])
                refine wpAnyH_done (by kernel_rfl) ?_ _
                have P5 := Lib.hid hHeld.1
                have B5 := Lib.hid (B4.out.trans (belowLe B4.out.size hHeld.2))
                have R5 := Lib.hid (R4.out.below hHeld.2)
                repeat clear hHeld
                clear hS0
                go_upto_region 8 with (fail)
                go_wp2_with (refine wpList_load_row rfl 51 (.tmp 1) rfl x rfl 51 _ (0, 0) _ P5.out Try.underlying51 rfl size51 ?_)
                refine (right27_any q f l c p i HSZ.out _ R5.out).mono ?_
                rw [RB.out]
                rintro e w6 ⟨rfl, hb6⟩
                have P6 := Lib.hid ((hb6.block x (Array.getElem?_eq_some_iff.1 P5.out).1).trans P5.out)
                have B6 := Lib.hid (B5.out.trans (belowLe B5.out.size hb6))
                have R6 := Lib.hid (R5.out.below hb6)
                clear hb6
                go_upto_region 10 with (fail)
                go_wp2_with (fail)
                refine (C31.out _).mono ?_
                rintro e w7 ⟨f7, l7, c7, p7, i7, rfl, hr7, hb7⟩
                have R77 := Lib.hid hr7
                clear hr7
                have P7 := Lib.hid ((hb7.block x (Array.getElem?_eq_some_iff.1 P6.out).1).trans P6.out)
                have B7 := Lib.hid (B6.out.trans (belowLe B6.out.size hb7))
                have R7 := Lib.hid (R6.out.below hb7)
                clear hb7
                have b8 := bel_allocRow51 w7 zrq (rq q f7 l7 c7 p7 i7)
                obtain ⟨w8, hw8⟩ : ∃ w8, w8 = (w7.alloc (.cells zrq 51)).setRow w7.heap.size (rq q f7 l7 c7 p7 i7) := ⟨_, rfl⟩
                rw [← hw8] at b8
                obtain ⟨u, hu⟩ : ∃ u, u = w7.heap.size := ⟨_, rfl⟩
                have U8 := Lib.hid (show w8.heap[u]? = some (.cells (rq q f7 l7 c7 p7 i7) 51 (0, 0)) by rw [hw8, hu]; exact setRow_heap _ _ _ _ _ _ (G.heap_new _ _))
                have HW8 := Lib.hid hw8
                have HU := Lib.hid hu
                have R88 := Lib.hid (R77.out.below b8)
                clear hw8 hu
                have P8 := Lib.hid ((b8.block x (Array.getElem?_eq_some_iff.1 P7.out).1).trans P7.out)
                have B8 := Lib.hid (B7.out.trans (belowLe B7.out.size b8))
                have R8 := Lib.hid (R7.out.below b8)
                clear b8
                dsimp only
                rename_i hK
                refine hK _ _ ?_
                clear hK
                go_upto_region 11 with ((refine wpList_store_row rfl 51 (.tmp 5) (.tmp 57) rfl _ (rq q f7 l7 c7 p7 i7) rfl rfl 51 _ (G.heap_new _ _) size51 rfl (rq_one _ _ _ _ _ _) ?_); rw [← HW8.out, ← HU.out])
                have qq : (tb.toList == tb.toList) = true := by simp
                go_wp2_with (refine wpList_load_row rfl 51 (.tmp 1) rfl x rfl 51 _ (0, 0) _ P8.out Try.underlying51 rfl size51 ?_)
                refine (rqb_any q f l c p i HF.out w8 R8.out).mono ?_
                rw [← HTB.out]
                rintro e w9 ⟨rfl, hb9⟩
                have U9 := Lib.hid ((hb9.block u (Array.getElem?_eq_some_iff.1 U8.out).1).trans U8.out)
                have R99 := Lib.hid (R88.out.below hb9)
                have P9 := Lib.hid ((hb9.block x (Array.getElem?_eq_some_iff.1 P8.out).1).trans P8.out)
                have B9 := Lib.hid (B8.out.trans (belowLe B8.out.size hb9))
                have R9 := Lib.hid (R8.out.below hb9)
                clear hb9
                dsimp only
                rename_i hK
                refine hK _ _ ?_
                clear hK
                repeat (first | ((refine wp_load_row 51 (.tmp 5) rfl u rfl 51 _ (0, 0) _ U9.out Try.underlying51 rfl size51 ?_); (try simp only [Act.put, s1, s2, s3])) | ((refine wp_load_row 51 (.tmp 1) rfl x rfl 51 _ (0, 0) _ P9.out Try.underlying51 rfl size51 ?_); (try simp only [Act.put, s1, s2, s3])) | go_values | go_skip | go_guarded | go_step)
                go_wp2_with (fail)
                refine (rsamerq_any q q f7 l7 c7 p7 i7 f l c p i HSZ.out w9 R99.out R9.out).mono ?_
                rw [sameRq_self]
                rintro e w10 ⟨rfl, hb10⟩
                go_wp2
                go_ret
                exact ⟨rfl, B9.out.trans (belowLe B9.out.size hb10)⟩
              exact AllReadyH.nil
            exact AllReadyH.nil
          exact AllReadyH.nil
        exact AllReadyH.nil
      exact AllReadyH.nil
    exact AllReadyH.nil
  exact AllReadyH.nil
theorem wreq_row (q : Rq) (f l c p i : Sl) (W : World) (hr : RowsR W q.ob f l c p i) (hz : RqSz q) (w : World) (hw : w = W) :
    Calls Try.prog 8 #[.agg (rq q f l c p i)] w fun y w' => y = .returned (.bool true) ∧ Below w.heap.size w w' := by
  subst hw
  cases hlo : longO q.ob
  rotate_left
  · exact wreq_long q f l c p i hz hlo w hr
  by_cases hn : q.name.size ≤ 1000
  rotate_left
  · exact wreq_name q f l c p i hz hlo hn w hr
  cases hrb : rightB q
  · exact wreq_false q f l c p i hz hlo hn hrb w hr
  · exact wreq_true q f l c p i hz hlo hn hrb w hr
end Go.Proofs.Ytolndeolehkjoaa
