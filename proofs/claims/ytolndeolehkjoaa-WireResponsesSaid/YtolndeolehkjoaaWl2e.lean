/- The walk of WireResponses. -/
import Derived.Test.YtolndeolehkjoaaWp3e
import Derived.Test.YtolndeolehkjoaaRo2c
import Derived.Test.YtolndeolehkjoaaWq5c
namespace Go.Proofs.Ytolndeolehkjoaa
set_option linter.unusedVariables false
set_option linter.unusedSimpArgs false
open Go.RowKit CodP
theorem bytesS_le2 (o : Ob) (h : CodP.shape o = true) : (bytesS o).size ≤ 9500 := by
  have hf := fits_of o h
  rw [bytesS_size, enc_ob o hf.kind, List.length_append]
  simp only [CodP.shape, inR, textsB, labelsB, Bool.and_eq_true, decide_eq_true_eq, List.all_eq_true, List.mem_cons, List.not_mem_nil, or_false, forall_eq_or_imp, forall_eq] at h
  obtain ⟨⟨⟨⟨⟨⟨⟨⟨⟨hk, _⟩, ⟨⟨ht, hp⟩, hb⟩, hfa⟩, hu, hv⟩, h1, h2, h3, h4, h5, h6, h7⟩, hfi⟩, hci⟩, hip⟩, hfl⟩, hla⟩ := h
  have g1 := fm_len eT 201 o.fins fun x hx => eT_le x (hfi.2 x hx)
  have g2 := fm_len eT 201 o.cidrs fun x hx => eT_le x (hci.2 x hx)
  have g3 := fm_len eT 201 o.ips fun x hx => eT_le x (hip.2 x hx)
  have g4 := fm_len eP 402 o.labels fun x hx => eP_le x (hla.2 x hx)
  have g5 := fm_len eB 1 o.fams fun x hx => Nat.le_refl _
  have t1 := eT_le _ h1
  have t2 := eT_le _ h2
  have t3 := eT_le _ h3
  have t4 := eT_le _ h4
  have t5 := eT_le _ h5
  have t6 := eT_le _ h6
  have t7 := eT_le _ h7
  have hh : (eHead o).length ≤ 7600 := by
    unfold eHead
    simp only [List.length_append, BL_length, ByteArray.size_append, num8_size]
    have e1 : ∀ n, (eB n).length = 1 := fun _ => rfl
    simp only [e1]
    omega
  have ht2 : (eTail o).length ≤ 1900 := by
    have e1 : ∀ n, (eB n).length = 1 := fun _ => rfl
    unfold eTail
    split
    · simp only [List.length_append, e1]; omega
    split
    · simp only [List.length_append, e1]; omega
    split
    · simp only [List.length_append, e1, List.flatMap_cons, List.flatMap_nil, List.length_nil]; omega
    split
    · simp only [List.length_append, e1, List.flatMap_cons, List.flatMap_nil, List.length_nil]; omega
    · simp
  omega
theorem bytesAll_le2 (l : List Ob) (h : ∀ o ∈ l, CodP.shape o = true) : (bytesAll l).size ≤ 9500 * l.length := by
  induction l with
  | nil => simp only [bytesAll]; exact Nat.zero_le _
  | cons a l ih =>
    have h1 := bytesS_le2 a (h a (by simp))
    have h2 := ih fun x hx => h x (by simp [hx])
    simp only [bytesAll, ByteArray.size_append, List.length_cons]
    omega
theorem bytesRp_le (r : RE) (hb : rightRp r.p = true) (h30 : r.L.length ≤ 30) : (bytesRp r.p).size ≤ 300000 := by
  have h1 := bytesAll_le2 _ (rightP hb).shape
  have h2 : r.p.l.length = r.L.length := List.length_map _
  unfold bytesRp
  rw [ByteArray.size_append, ByteArray.size_append, bB_size, num8_size]
  omega
theorem bool_ne (b : Bool) : (b != b) = false := by cases b <;> rfl
theorem keepP {w1 V V' : World} {x : Nat} {A : Obj} (hl : x < w1.heap.size) (h : V.heap[x]? = some A ∧ Below w1.heap.size w1 V) (hb : Below V.heap.size V V') : V'.heap[x]? = some A ∧ Below w1.heap.size w1 V' :=
  ⟨(hb.block x (Nat.lt_of_lt_of_le hl h.2.size)).trans h.1, G.bthen h.2 hb⟩
theorem lens_of_long {r : RE} (h : ∀ e ∈ r.L, longO e.o = false) (h30 : r.L.length ≤ 30) : r.lens :=
  ⟨by omega, fun e he => by have := long_le e.o (h e he); omega⟩
theorem r0_lens : r0.lens := ⟨by show ([] : List OE).length ≤ 1000000; simp, by intro e he; cases he⟩
theorem r0_len : r0.L.length ≤ 1000000 := by show ([] : List OE).length ≤ 1000000; simp
set_option maxRecDepth 100000 in
set_option maxHeartbeats 8000000 in
theorem wresp_big (r : RE) (hz : RESz r) (h : ¬ r.L.length ≤ 30) (w : World) (hr : ObsR w r.A r.L) :
    Calls Try.prog 9 #[.agg (rc r)] w fun y w' => y = .returned (.bool true) ∧ Below w.heap.size w w' := by
  have d30 : decide ((30 : Int) < r.L.length) = true := decide_eq_true (by omega)
  clear h
  obtain ⟨w1, hw1, b1, p1⟩ := box60 w (rc r)
  obtain ⟨x, hx⟩ : ∃ x, x = w.heap.size := ⟨_, rfl⟩
  rw [← hx] at p1
  have HW := Lib.hid hw1
  have B1 := Lib.hid b1
  have P1 := Lib.hid p1
  have R1 := Lib.hid (hr.below b1)
  have hlz := hz.len
  have HZ := Lib.hid hz.obs
  clear hr hz b1 p1 hw1
  go_enter Try.func9, Try.ntmps9
  go_upto_region 1 with (fail)
  rw [← HW.out, ← hx]
  clear hx
  go_upto_region 3 with (go_at_call 24; refine (awakew_any _).mono ?_; rintro e w2 ⟨rfl, hb2⟩)
  have P2 := Lib.hid ((hb2.block x (Array.getElem?_eq_some_iff.1 P1.out).1).trans P1.out)
  have B2 := Lib.hid (B1.out.trans (belowLe B1.out.size hb2))
  have R2 := Lib.hid (R1.out.below hb2)
  clear hb2
  have c2 := at2 P2.out
  go_wp2
  go_ret
  exact ⟨rfl, B2.out⟩
set_option maxRecDepth 100000 in
set_option maxHeartbeats 8000000 in
theorem wresp_false (r : RE) (hz : RESz r) (h30 : r.L.length ≤ 30) (hrb : rightRp r.p = false) (w : World) (hr : ObsR w r.A r.L) :
    Calls Try.prog 9 #[.agg (rc r)] w fun y w' => y = .returned (.bool true) ∧ Below w.heap.size w w' := by
  have d30 : decide ((30 : Int) < r.L.length) = false := decide_eq_false (by omega)
  have hpk : packRp r.p = (⟨#[]⟩, 4) := by unfold packRp; rw [hrb]; rfl
  have HPK := Lib.hid hpk
  have RB := Lib.hid hrb
  have H30 := Lib.hid h30
  obtain ⟨sb, hsb⟩ : ∃ sb, sb = sameRp r.p r0.p := ⟨_, rfl⟩
  have SB := Lib.hid hsb
  clear hpk hrb hsb
  obtain ⟨w1, hw1, b1, p1⟩ := box60 w (rc r)
  obtain ⟨x, hx⟩ : ∃ x, x = w.heap.size := ⟨_, rfl⟩
  rw [← hx] at p1
  have HW := Lib.hid hw1
  have B1 := Lib.hid b1
  have P1 := Lib.hid p1
  have R1 := Lib.hid (hr.below b1)
  have hlz := hz.len
  have HZ := Lib.hid hz.obs
  clear hr hz b1 p1 hw1
  go_enter Try.func9, Try.ntmps9
  go_upto_region 1 with (fail)
  rw [← HW.out, ← hx]
  clear hx
  go_upto_region 3 with (go_at_call 24; refine (awakew_any _).mono ?_; rintro e w2 ⟨rfl, hb2⟩)
  have P2 := Lib.hid ((hb2.block x (Array.getElem?_eq_some_iff.1 P1.out).1).trans P1.out)
  have B2 := Lib.hid (B1.out.trans (belowLe B1.out.size hb2))
  have R2 := Lib.hid (R1.out.below hb2)
  clear hb2
  have c2 := at2 P2.out
  go_upto_region 5 with (fail)
  clear c2 d30
  go_wp2
  go_loopw [3] (fun i wr => ∃ k : Nat, k ≤ r.L.length ∧ i = .int .i64 k ∧ Hid ((∀ e ∈ r.L.take k, longO e.o = false) ∧ wr.heap[x]? = some (.cells (rc r) 60 (0, 0)) ∧ Below w2.heap.size w2 wr)) (fun i _ => r.L.length - (intOf i).toNat)
  case atStart => exact ⟨0, Nat.zero_le _, rfl, Lib.hid ⟨by simp, P2.out, Below.refl _ _⟩⟩
  case round =>
    obtain ⟨k, hk, rfl, H⟩ := hrel
    have c2 := at2 H.out.2.1
    by_cases hkn : k < r.L.length
    · obtain ⟨e, he⟩ : ∃ e, r.L[k]? = some e := ⟨_, List.getElem?_eq_getElem hkn⟩
      obtain ⟨g, p, hA, hrg, hrows⟩ := (R2.out.below H.out.2.2).at he
      rw [hA] at c2
      have HE := Lib.hid he
      have HRG := Lib.hid hrg
      have C1 := Lib.hid (long_any e.o e.f e.l e.c e.p e.i (HZ.out e (List.mem_of_getElem? he)) wr hrows)
      clear he hrg hrows hA
      go_upto_region 8 with (fail)
      repeat (first | ((refine wpList_load_elem rfl (.tmp 24) rfl g (p + k * 19) rfl e HRG.out ?_); (try simp only [Act.put, s1, s2, s3])) | go_values | go_skip | go_guarded | go_step)
      go_wp2_with (fail)
      refine C1.out.mono ?_
      clear c2
      cases hs : longO e.o
      · have HN := Lib.hid hs
        clear hs
        rintro y w3 ⟨rfl, hb3⟩
        have HB3 := Lib.hid hb3
        clear hb3
        go_wp2
        go_roundw
        case rel =>
          refine ⟨k + 1, by omega, by go_num, Lib.hid ⟨fun e' he' => ?_, (HB3.out.block x (Array.getElem?_eq_some_iff.1 H.out.2.1).1).trans H.out.2.1, G.bthen H.out.2.2 HB3.out⟩⟩
          rw [List.take_add_one, HE.out] at he'
          rcases List.mem_append.1 he' with h1 | h1
          · exact H.out.1 e' h1
          · simp at h1; rw [h1]; exact HN.out
        case measure => simp [intOf]; omega
      · clear hs
        rintro y w3 ⟨rfl, hb3⟩
        go_wp2
        go_ret
        exact ⟨rfl, B2.out.trans (belowLe B2.out.size (G.bthen H.out.2.2 hb3))⟩
    · obtain rfl : k = r.L.length := by omega
      have hlo := H.out.1
      rw [List.take_length] at hlo
      have HL := Lib.hid (lens_of_long hlo H30.out)
      have hbw := H.out.2.2
      have P3 := Lib.hid H.out.2.1
      have B3 := Lib.hid (B2.out.trans (belowLe B2.out.size hbw))
      have R3 := Lib.hid (R2.out.below hbw)
      clear hlo hkn hk H hbw
      go_upto_region 10 with (fail)
      clear c2
      go_wp2_with (refine wpList_load_row rfl 60 (.tmp 1) rfl x rfl 60 _ (0, 0) _ P3.out Try.underlying60 rfl size60 ?_)
      refine (pkp_any r HL.out H30.out wr R3.out).mono ?_
      rw [HPK.out]
      rintro e w4 ⟨rfl, hb4⟩
      have P4 := Lib.hid ((hb4.block x (Array.getElem?_eq_some_iff.1 P3.out).1).trans P3.out)
      have B4 := Lib.hid (B3.out.trans (belowLe B3.out.size hb4))
      have R4 := Lib.hid (R3.out.below hb4)
      clear hb4
      have L4 := Lib.hid (Array.getElem?_eq_some_iff.1 P4.out).1
      go_upto_region 11 with (fail)
      refine wp_region_held_drew (S := fun V => V.heap[x]? = some (.cells (rc r) 60 (0, 0)) ∧ Below w4.heap.size w4 V) (by kernel_rfl) ⟨P4.out, ⟨rfl, rfl, rfl, Nat.le_refl _, fun _ _ => rfl⟩⟩ (fun hS0 => ?_)
      refine tk 0 32 (.agg (rc r)) ?_ (hv := by exact load_row_yields 60 (.tmp 1) rfl x rfl 60 (rc r) (0, 0) _ (fun V hV => hV.1) Try.underlying60 rfl size60); (try simp only [s1, s2, s3]); refine tk 2 34 (.agg (rc r)) ?_ (hv := by exact load_row_yields 60 (.tmp 1) rfl x rfl 60 (rc r) (0, 0) _ (fun V hV => hV.1) Try.underlying60 rfl size60); (try simp only [s1, s2, s3])
      refine wpAnyH_ready (rs := [1]) (by kernel_rfl) (by simp) ?_
      refine AllReadyH.cons rfl (fun K hK => ?_) ?_
      · rw [if_pos (by rfl)]
        go_simp
        go_at_call 34
        refine (right34_any r HL.out _ (R4.out.below (And.right (by assumption)))).mono ?_
        rw [RB.out]
        rintro e v1 ⟨rfl, hb1⟩
        dsimp only
        refine hK.out _ _ (keepP L4.out (by assumption) hb1) (fun hHeld => ?_)
        clear hK K; try simp only [Act.put, s1, s2, s3]
        refine wpAnyH_ready (rs := [3]) (by kernel_rfl) (by simp) ?_
        refine AllReadyH.cons rfl (fun K hK => ?_) ?_
        · rw [if_pos (by rfl)]
          go_simp
          go_at_call 35
          refine (right35_any r HL.out _ (R4.out.below (And.right (by assumption)))).mono ?_
          rw [RB.out]
          rintro e v2 ⟨rfl, hb2⟩
          dsimp only
          refine hK.out _ _ (keepP L4.out (by assumption) hb2) (fun hHeld => ?_)
          clear hK K; try simp only [Act.put, s1, s2, s3]
          refine tk 4 36 (.bool false) ?_; (try simp only [s1, s2, s3]); refine tk 5 37 (.bool false) ?_; (try simp only [s1, s2, s3]); refine tk 6 38 (.agg (rc r)) ?_ (hv := by exact load_row_yields 60 (.tmp 1) rfl x rfl 60 (rc r) (0, 0) _ (fun V hV => hV.1) Try.underlying60 rfl size60); (try simp only [s1, s2, s3]); refine tk 7 39 (.agg (rc r)) ?_ (hv := by exact load_row_yields 60 (.tmp 1) rfl x rfl 60 (rc r) (0, 0) _ (fun V hV => hV.1) Try.underlying60 rfl size60); (try simp only [s1, s2, s3])
          refine wpAnyH_ready (rs := [8]) (by kernel_rfl) (by simp) ?_
          refine AllReadyH.cons rfl (fun K hK => ?_) ?_
          · rw [if_pos (by rfl)]
            go_simp
            go_at_call 36
            refine (samerp_any r r HL.out HL.out.1 _ (R4.out.below (And.right (by assumption))) (R4.out.below (And.right (by assumption)))).mono ?_
            rw [sameRp_self]
            rintro e v3 ⟨rfl, hb3⟩
            dsimp only
            refine hK.out _ _ (keepP L4.out (by assumption) hb3) (fun hHeld => ?_)
            clear hK K; try simp only [Act.put, s1, s2, s3]
            refine tk 9 41 (.bool false) ?_; (try simp only [s1, s2, s3]); refine tk 10 42 (.bool false) ?_; (try simp only [s1, s2, s3]); refine tk 11 43 (.bool false) ?_; (try simp only [s1, s2, s3]); refine tk 12 44 (.agg (rc r)) ?_ (hv := by exact load_row_yields 60 (.tmp 1) rfl x rfl 60 (rc r) (0, 0) _ (fun V hV => hV.1) Try.underlying60 rfl size60); (try simp only [s1, s2, s3]); refine tk 13 45 (.agg (rc r0)) ?_; (try simp only [s1, s2, s3]); refine tk 15 47 (.agg (rc r)) ?_ (hv := by exact load_row_yields 60 (.tmp 1) rfl x rfl 60 (rc r) (0, 0) _ (fun V hV => hV.1) Try.underlying60 rfl size60); (try simp only [s1, s2, s3]); refine tk 16 48 (.agg (rc r0)) ?_; (try simp only [s1, s2, s3])
            refine wpAnyH_ready (rs := [14]) (by kernel_rfl) (by simp) ?_
            refine AllReadyH.cons rfl (fun K hK => ?_) ?_
            · rw [if_pos (by rfl)]
              go_simp
              go_at_call 36
              refine (samerp_any r r0 HL.out r0_len _ (R4.out.below (And.right (by assumption))) (ObsR.nil _)).mono ?_
              rw [← SB.out]
              rintro e v4 ⟨rfl, hb4⟩
              dsimp only
              refine hK.out _ _ (keepP L4.out (by assumption) hb4) (fun hHeld => ?_)
              clear hK K; try simp only [Act.put, s1, s2, s3]
              refine wpAnyH_ready (rs := [17]) (by kernel_rfl) (by simp) ?_
              refine AllReadyH.cons rfl (fun K hK => ?_) ?_
              · rw [if_pos (by rfl)]
                go_simp
                go_at_call 37
                refine (rsamerp_any r r0 HL.out r0_len _ (R4.out.below (And.right (by assumption))) (ObsR.nil _)).mono ?_
                rw [← SB.out]
                rintro e v5 ⟨rfl, hb5⟩
                dsimp only
                refine hK.out _ _ (keepP L4.out (by assumption) hb5) (fun hHeld => ?_)
                clear hK K; try simp only [Act.put, s1, s2, s3]
                refine tk 18 50 (.bool false) ?_ (hv := by (intro V hV; clear hV; have bn := bool_ne sb; go_simp; try rfl)); (try simp only [s1, s2, s3]); refine tk 19 51 (.bool false) ?_; (try simp only [s1, s2, s3])
                refine wpAnyH_done (by kernel_rfl) ?_ _
                have P5 := Lib.hid hHeld.1
                have B5 := Lib.hid (B4.out.trans (belowLe B4.out.size hHeld.2))
                have R5 := Lib.hid (R4.out.below hHeld.2)
                repeat clear hHeld
                clear hS0
                go_upto_region 13 with (fail)
                go_wp2_with (refine wpList_load_row rfl 60 (.tmp 1) rfl x rfl 60 _ (0, 0) _ P5.out Try.underlying60 rfl size60 ?_)
                refine (right35_any r HL.out _ R5.out).mono ?_
                rw [RB.out]
                rintro e w6 ⟨rfl, hb6⟩
                have P6 := Lib.hid ((hb6.block x (Array.getElem?_eq_some_iff.1 P5.out).1).trans P5.out)
                have B6 := Lib.hid (B5.out.trans (belowLe B5.out.size hb6))
                have R6 := Lib.hid (R5.out.below hb6)
                clear hb6
                have e0 : (⟨#[]⟩ : ByteArray).toList.isEmpty = true := by decide +kernel
                go_wp2
                go_ret
                exact ⟨rfl, B6.out⟩
              exact AllReadyH.nil
            exact AllReadyH.nil
          exact AllReadyH.nil
        exact AllReadyH.nil
      exact AllReadyH.nil
set_option maxRecDepth 100000 in
set_option maxHeartbeats 8000000 in
theorem wresp_true (r : RE) (hz : RESz r) (h30 : r.L.length ≤ 30) (hrb : rightRp r.p = true) (w : World) (hr : ObsR w r.A r.L) :
    Calls Try.prog 9 #[.agg (rc r)] w fun y w' => y = .returned (.bool true) ∧ Below w.heap.size w w' := by
  have d30 : decide ((30 : Int) < r.L.length) = false := decide_eq_false (by omega)
  have hpk : packRp r.p = (bytesRp r.p, 0) := by unfold packRp; rw [hrb]; rfl
  have HPK := Lib.hid hpk
  have RB := Lib.hid hrb
  have H30 := Lib.hid h30
  obtain ⟨sb, hsb⟩ : ∃ sb, sb = sameRp r.p r0.p := ⟨_, rfl⟩
  have SB := Lib.hid hsb
  have hbl := bytesRp_le r hrb h30
  have hbk := rp_back r.p hrb
  obtain ⟨tb, htb⟩ : ∃ tb, tb = bytesRp r.p := ⟨_, rfl⟩
  rw [← htb] at hbl hbk
  have HTB := Lib.hid htb
  have C38 := Lib.hid (fun V => unpackp_any tb (by omega) V)
  rw [hbk] at C38
  clear hbk htb
  clear hpk hrb hsb
  obtain ⟨w1, hw1, b1, p1⟩ := box60 w (rc r)
  obtain ⟨x, hx⟩ : ∃ x, x = w.heap.size := ⟨_, rfl⟩
  rw [← hx] at p1
  have HW := Lib.hid hw1
  have B1 := Lib.hid b1
  have P1 := Lib.hid p1
  have R1 := Lib.hid (hr.below b1)
  have hlz := hz.len
  have HZ := Lib.hid hz.obs
  clear hr hz b1 p1 hw1
  go_enter Try.func9, Try.ntmps9
  go_upto_region 1 with (fail)
  rw [← HW.out, ← hx]
  clear hx
  go_upto_region 3 with (go_at_call 24; refine (awakew_any _).mono ?_; rintro e w2 ⟨rfl, hb2⟩)
  have P2 := Lib.hid ((hb2.block x (Array.getElem?_eq_some_iff.1 P1.out).1).trans P1.out)
  have B2 := Lib.hid (B1.out.trans (belowLe B1.out.size hb2))
  have R2 := Lib.hid (R1.out.below hb2)
  clear hb2
  have c2 := at2 P2.out
  go_upto_region 5 with (fail)
  clear c2 d30
  go_wp2
  go_loopw [3] (fun i wr => ∃ k : Nat, k ≤ r.L.length ∧ i = .int .i64 k ∧ Hid ((∀ e ∈ r.L.take k, longO e.o = false) ∧ wr.heap[x]? = some (.cells (rc r) 60 (0, 0)) ∧ Below w2.heap.size w2 wr)) (fun i _ => r.L.length - (intOf i).toNat)
  case atStart => exact ⟨0, Nat.zero_le _, rfl, Lib.hid ⟨by simp, P2.out, Below.refl _ _⟩⟩
  case round =>
    obtain ⟨k, hk, rfl, H⟩ := hrel
    have c2 := at2 H.out.2.1
    by_cases hkn : k < r.L.length
    · obtain ⟨e, he⟩ : ∃ e, r.L[k]? = some e := ⟨_, List.getElem?_eq_getElem hkn⟩
      obtain ⟨g, p, hA, hrg, hrows⟩ := (R2.out.below H.out.2.2).at he
      rw [hA] at c2
      have HE := Lib.hid he
      have HRG := Lib.hid hrg
      have C1 := Lib.hid (long_any e.o e.f e.l e.c e.p e.i (HZ.out e (List.mem_of_getElem? he)) wr hrows)
      clear he hrg hrows hA
      go_upto_region 8 with (fail)
      repeat (first | ((refine wpList_load_elem rfl (.tmp 24) rfl g (p + k * 19) rfl e HRG.out ?_); (try simp only [Act.put, s1, s2, s3])) | go_values | go_skip | go_guarded | go_step)
      go_wp2_with (fail)
      refine C1.out.mono ?_
      clear c2
      cases hs : longO e.o
      · have HN := Lib.hid hs
        clear hs
        rintro y w3 ⟨rfl, hb3⟩
        have HB3 := Lib.hid hb3
        clear hb3
        go_wp2
        go_roundw
        case rel =>
          refine ⟨k + 1, by omega, by go_num, Lib.hid ⟨fun e' he' => ?_, (HB3.out.block x (Array.getElem?_eq_some_iff.1 H.out.2.1).1).trans H.out.2.1, G.bthen H.out.2.2 HB3.out⟩⟩
          rw [List.take_add_one, HE.out] at he'
          rcases List.mem_append.1 he' with h1 | h1
          · exact H.out.1 e' h1
          · simp at h1; rw [h1]; exact HN.out
        case measure => simp [intOf]; omega
      · clear hs
        rintro y w3 ⟨rfl, hb3⟩
        go_wp2
        go_ret
        exact ⟨rfl, B2.out.trans (belowLe B2.out.size (G.bthen H.out.2.2 hb3))⟩
    · obtain rfl : k = r.L.length := by omega
      have hlo := H.out.1
      rw [List.take_length] at hlo
      have HL := Lib.hid (lens_of_long hlo H30.out)
      have hbw := H.out.2.2
      have P3 := Lib.hid H.out.2.1
      have B3 := Lib.hid (B2.out.trans (belowLe B2.out.size hbw))
      have R3 := Lib.hid (R2.out.below hbw)
      clear hlo hkn hk H hbw
      go_upto_region 10 with (fail)
      clear c2
      go_wp2_with (refine wpList_load_row rfl 60 (.tmp 1) rfl x rfl 60 _ (0, 0) _ P3.out Try.underlying60 rfl size60 ?_)
      refine (pkp_any r HL.out H30.out wr R3.out).mono ?_
      rw [HPK.out]
      rintro e w4 ⟨rfl, hb4⟩
      have P4 := Lib.hid ((hb4.block x (Array.getElem?_eq_some_iff.1 P3.out).1).trans P3.out)
      have B4 := Lib.hid (B3.out.trans (belowLe B3.out.size hb4))
      have R4 := Lib.hid (R3.out.below hb4)
      clear hb4
      dsimp only
      rw [← HTB.out]
      have L4 := Lib.hid (Array.getElem?_eq_some_iff.1 P4.out).1
      go_upto_region 11 with (fail)
      refine wp_region_held_drew (S := fun V => V.heap[x]? = some (.cells (rc r) 60 (0, 0)) ∧ Below w4.heap.size w4 V) (by kernel_rfl) ⟨P4.out, ⟨rfl, rfl, rfl, Nat.le_refl _, fun _ _ => rfl⟩⟩ (fun hS0 => ?_)
      refine tk 0 32 (.agg (rc r)) ?_ (hv := by exact load_row_yields 60 (.tmp 1) rfl x rfl 60 (rc r) (0, 0) _ (fun V hV => hV.1) Try.underlying60 rfl size60); (try simp only [s1, s2, s3]); refine tk 2 34 (.agg (rc r)) ?_ (hv := by exact load_row_yields 60 (.tmp 1) rfl x rfl 60 (rc r) (0, 0) _ (fun V hV => hV.1) Try.underlying60 rfl size60); (try simp only [s1, s2, s3])
      refine wpAnyH_ready (rs := [1]) (by kernel_rfl) (by simp) ?_
      refine AllReadyH.cons rfl (fun K hK => ?_) ?_
      · rw [if_pos (by rfl)]
        go_simp
        go_at_call 34
        refine (right34_any r HL.out _ (R4.out.below (And.right (by assumption)))).mono ?_
        rw [RB.out]
        rintro e v1 ⟨rfl, hb1⟩
        dsimp only
        refine hK.out _ _ (keepP L4.out (by assumption) hb1) (fun hHeld => ?_)
        clear hK K; try simp only [Act.put, s1, s2, s3]
        refine wpAnyH_ready (rs := [3]) (by kernel_rfl) (by simp) ?_
        refine AllReadyH.cons rfl (fun K hK => ?_) ?_
        · rw [if_pos (by rfl)]
          go_simp
          go_at_call 35
          refine (right35_any r HL.out _ (R4.out.below (And.right (by assumption)))).mono ?_
          rw [RB.out]
          rintro e v2 ⟨rfl, hb2⟩
          dsimp only
          refine hK.out _ _ (keepP L4.out (by assumption) hb2) (fun hHeld => ?_)
          clear hK K; try simp only [Act.put, s1, s2, s3]
          refine tk 4 36 (.bool false) ?_; (try simp only [s1, s2, s3]); refine tk 5 37 (.bool false) ?_; (try simp only [s1, s2, s3]); refine tk 6 38 (.agg (rc r)) ?_ (hv := by exact load_row_yields 60 (.tmp 1) rfl x rfl 60 (rc r) (0, 0) _ (fun V hV => hV.1) Try.underlying60 rfl size60); (try simp only [s1, s2, s3]); refine tk 7 39 (.agg (rc r)) ?_ (hv := by exact load_row_yields 60 (.tmp 1) rfl x rfl 60 (rc r) (0, 0) _ (fun V hV => hV.1) Try.underlying60 rfl size60); (try simp only [s1, s2, s3])
          refine wpAnyH_ready (rs := [8]) (by kernel_rfl) (by simp) ?_
          refine AllReadyH.cons rfl (fun K hK => ?_) ?_
          · rw [if_pos (by rfl)]
            go_simp
            go_at_call 36
            refine (samerp_any r r HL.out HL.out.1 _ (R4.out.below (And.right (by assumption))) (R4.out.below (And.right (by assumption)))).mono ?_
            rw [sameRp_self]
            rintro e v3 ⟨rfl, hb3⟩
            dsimp only
            refine hK.out _ _ (keepP L4.out (by assumption) hb3) (fun hHeld => ?_)
            clear hK K; try simp only [Act.put, s1, s2, s3]
            refine tk 9 41 (.bool false) ?_; (try simp only [s1, s2, s3]); refine tk 10 42 (.bool false) ?_; (try simp only [s1, s2, s3]); refine tk 11 43 (.bool false) ?_; (try simp only [s1, s2, s3]); refine tk 12 44 (.agg (rc r)) ?_ (hv := by exact load_row_yields 60 (.tmp 1) rfl x rfl 60 (rc r) (0, 0) _ (fun V hV => hV.1) Try.underlying60 rfl size60); (try simp only [s1, s2, s3]); refine tk 13 45 (.agg (rc r0)) ?_; (try simp only [s1, s2, s3]); refine tk 15 47 (.agg (rc r)) ?_ (hv := by exact load_row_yields 60 (.tmp 1) rfl x rfl 60 (rc r) (0, 0) _ (fun V hV => hV.1) Try.underlying60 rfl size60); (try simp only [s1, s2, s3]); refine tk 16 48 (.agg (rc r0)) ?_; (try simp only [s1, s2, s3])
            refine wpAnyH_ready (rs := [14]) (by kernel_rfl) (by simp) ?_
            refine AllReadyH.cons rfl (fun K hK => ?_) ?_
            · rw [if_pos (by rfl)]
              go_simp
              go_at_call 36
              refine (samerp_any r r0 HL.out r0_len _ (R4.out.below (And.right (by assumption))) (ObsR.nil _)).mono ?_
              rw [← SB.out]
              rintro e v4 ⟨rfl, hb4⟩
              dsimp only
              refine hK.out _ _ (keepP L4.out (by assumption) hb4) (fun hHeld => ?_)
              clear hK K; try simp only [Act.put, s1, s2, s3]
              refine wpAnyH_ready (rs := [17]) (by kernel_rfl) (by simp) ?_
              refine AllReadyH.cons rfl (fun K hK => ?_) ?_
              · rw [if_pos (by rfl)]
                go_simp
                go_at_call 37
                refine (rsamerp_any r r0 HL.out r0_len _ (R4.out.below (And.right (by assumption))) (ObsR.nil _)).mono ?_
                rw [← SB.out]
                rintro e v5 ⟨rfl, hb5⟩
                dsimp only
                refine hK.out _ _ (keepP L4.out (by assumption) hb5) (fun hHeld => ?_)
                clear hK K; try simp only [Act.put, s1, s2, s3]
                refine tk 18 50 (.bool false) ?_ (hv := by (intro V hV; clear hV; have bn := bool_ne sb; go_simp; try rfl)); (try simp only [s1, s2, s3]); refine tk 19 51 (.bool false) ?_; (try simp only [s1, s2, s3])
                refine wpAnyH_done (by kernel_rfl) ?_ _
                have P5 := Lib.hid hHeld.1
                have B5 := Lib.hid (B4.out.trans (belowLe B4.out.size hHeld.2))
                have R5 := Lib.hid (R4.out.below hHeld.2)
                repeat clear hHeld
                clear hS0
                go_upto_region 13 with (fail)
                go_wp2_with (refine wpList_load_row rfl 60 (.tmp 1) rfl x rfl 60 _ (0, 0) _ P5.out Try.underlying60 rfl size60 ?_)
                refine (right35_any r HL.out _ R5.out).mono ?_
                rw [RB.out]
                rintro e w6 ⟨rfl, hb6⟩
                have P6 := Lib.hid ((hb6.block x (Array.getElem?_eq_some_iff.1 P5.out).1).trans P5.out)
                have B6 := Lib.hid (B5.out.trans (belowLe B5.out.size hb6))
                have R6 := Lib.hid (R5.out.below hb6)
                clear hb6
                go_upto_region 15 with (fail)
                go_wp2_with (fail)
                refine (C38.out _).mono ?_
                rintro e w7 ⟨q, rfl, hqp, hr7, hb7⟩
                have R77 := Lib.hid hr7
                have HQP := Lib.hid hqp
                clear hr7 hqp
                have P7 := Lib.hid ((hb7.block x (Array.getElem?_eq_some_iff.1 P6.out).1).trans P6.out)
                have B7 := Lib.hid (B6.out.trans (belowLe B6.out.size hb7))
                have R7 := Lib.hid (R6.out.below hb7)
                clear hb7
                have b8 := bel_allocRow60 w7 #[.int .i64 0, .int .i64 0, .slice none 0 0] (rc q)
                obtain ⟨w8, hw8⟩ : ∃ w8, w8 = (w7.alloc (.cells #[.int .i64 0, .int .i64 0, .slice none 0 0] 60)).setRow w7.heap.size (rc q) := ⟨_, rfl⟩
                rw [← hw8] at b8
                obtain ⟨u, hu⟩ : ∃ u, u = w7.heap.size := ⟨_, rfl⟩
                have U8 := Lib.hid (show w8.heap[u]? = some (.cells (rc q) 60 (0, 0)) by rw [hw8, hu]; exact setRow_heap _ _ _ _ _ _ (G.heap_new _ _))
                have HW8 := Lib.hid hw8
                have HU := Lib.hid hu
                have R88 := Lib.hid (R77.out.below b8)
                clear hw8 hu
                have P8 := Lib.hid ((b8.block x (Array.getElem?_eq_some_iff.1 P7.out).1).trans P7.out)
                have B8 := Lib.hid (B7.out.trans (belowLe B7.out.size b8))
                have R8 := Lib.hid (R7.out.below b8)
                clear b8
                dsimp only
                rename_i hK
                refine hK _ _ ?_
                clear hK
                go_upto_region 16 with ((refine wpList_store_row rfl 60 (.tmp 6) (.tmp 64) rfl _ (rc q) rfl rfl 60 _ (G.heap_new _ _) size60 rfl (rc_one q) ?_); rw [← HW8.out, ← HU.out])
                have qq : (tb.toList == tb.toList) = true := by simp
                go_wp2_with (refine wpList_load_row rfl 60 (.tmp 1) rfl x rfl 60 _ (0, 0) _ P8.out Try.underlying60 rfl size60 ?_)
                refine (rpb_any r RB.out w8 R8.out).mono ?_
                rw [← HTB.out]
                rintro e w9 ⟨rfl, hb9⟩
                have U9 := Lib.hid ((hb9.block u (Array.getElem?_eq_some_iff.1 U8.out).1).trans U8.out)
                have R99 := Lib.hid (R88.out.below hb9)
                have P9 := Lib.hid ((hb9.block x (Array.getElem?_eq_some_iff.1 P8.out).1).trans P8.out)
                have B9 := Lib.hid (B8.out.trans (belowLe B8.out.size hb9))
                have R9 := Lib.hid (R8.out.below hb9)
                clear hb9
                dsimp only
                rename_i hK
                refine hK _ _ ?_
                clear hK
                repeat (first | ((refine wp_load_row 60 (.tmp 6) rfl u rfl 60 _ (0, 0) _ U9.out Try.underlying60 rfl size60 ?_); (try simp only [Act.put, s1, s2, s3])) | ((refine wp_load_row 60 (.tmp 1) rfl x rfl 60 _ (0, 0) _ P9.out Try.underlying60 rfl size60 ?_); (try simp only [Act.put, s1, s2, s3])) | go_values | go_skip | go_guarded | go_step)
                go_wp2_with (fail)
                have hqr : q.p = r.p := HQP.out
                have hqL : q.L.length = r.L.length := by have h := congrArg (fun z => z.l.length) hqr; simpa [RE.p] using h
                have HQL := Lib.hid (show q.lens from RE.lens_of (by rw [hqr]; exact rightP RB.out))
                refine (rsamerp_any q r HQL.out HL.out.1 w9 R99.out R9.out).mono ?_
                rw [hqr, sameRp_self]
                rintro e w10 ⟨rfl, hb10⟩
                clear hqr hqL
                go_wp2
                go_ret
                exact ⟨rfl, B9.out.trans (belowLe B9.out.size hb10)⟩
              exact AllReadyH.nil
            exact AllReadyH.nil
          exact AllReadyH.nil
        exact AllReadyH.nil
      exact AllReadyH.nil
theorem wresp_row (r : RE) (W : World) (hr : ObsR W r.A r.L) (hz : RESz r) (w : World) (hw : w = W) :
    Calls Try.prog 9 #[.agg (rc r)] w fun y w' => y = .returned (.bool true) ∧ Below w.heap.size w w' := by
  subst hw
  by_cases h30 : r.L.length ≤ 30
  rotate_left
  · exact wresp_big r hz h30 w hr
  cases hrb : rightRp r.p
  · exact wresp_false r hz h30 hrb w hr
  · exact wresp_true r hz h30 hrb w hr
end Go.Proofs.Ytolndeolehkjoaa
