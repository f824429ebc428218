/- The walk of WireReads. -/
import Derived.Test.YtolndeolehkjoaaWp3d
import Derived.Test.YtolndeolehkjoaaWq7d
namespace Go.Proofs.Ytolndeolehkjoaa
set_option linter.unusedVariables false
set_option linter.unusedSimpArgs false
open Go.RowKit CodP
theorem r0_lens : r0.lens := ⟨by show ([] : List OE).length ≤ 1000000; simp, by intro e he; cases he⟩
theorem r0_len : r0.L.length ≤ 1000000 := by show ([] : List OE).length ≤ 1000000; simp
theorem lens_nil {r : RE} (h : r.p = zeroRp) : r.lens := by
  have h1 : r.L.map (·.o) = [] := congrArg Rp.l h
  have h2 : r.L = [] := List.map_eq_nil_iff.1 h1
  exact ⟨by rw [h2]; simp, by rw [h2]; intro e he; cases he⟩
set_option maxRecDepth 100000 in
set_option maxHeartbeats 8000000 in
theorem wreads_big (s : ByteArray) (hs : s.size ≤ 140737488351232) (h : ¬ s.size ≤ 9000) (w : World) :
    Calls Try.prog 10 #[.string s] w fun y w' => y = .returned (.bool true) ∧ Below w.heap.size w w' := by
  have d9 : decide ((9000 : Int) < s.size) = true := decide_eq_true (by omega)
  clear h
  go_enter Try.func10, Try.ntmps10
  go_wp2_with (go_at_call 24; refine (awakew_any _).mono ?_; rintro e w1 ⟨rfl, hb1⟩)
  go_ret
  exact ⟨rfl, hb1⟩
set_option maxRecDepth 100000 in
set_option maxHeartbeats 8000000 in
theorem wreads_ok_ok (s : ByteArray) (hs : s.size ≤ 9000) (hq : (unpackRq s).2 = 0) (hp : (unpackRp s).2 = 0) (w : World) :
    Calls Try.prog 10 #[.string s] w fun y w' => y = .returned (.bool true) ∧ Below w.heap.size w w' := by
  have d9 : decide ((9000 : Int) < s.size) = false := decide_eq_false (by omega)
  have C31 := Lib.hid (fun V => unpackq_any s (by omega) V)
  have C38 := Lib.hid (fun V => unpackp_any s (by omega) V)
  obtain ⟨hr1, hr2⟩ := req_ok s hq
  obtain ⟨q, hqd⟩ : ∃ q, q = (unpackRq s).1 := ⟨_, rfl⟩
  rw [← hqd] at hr1 hr2
  have hpair : unpackRq s = (q, 0) := Prod.ext hqd.symm hq
  have RB := Lib.hid hr1
  have BQ0 := Lib.hid hr2
  have HF := Lib.hid (rightF hr1)
  have HLQ := Lib.hid (rightF_len (rightF hr1))
  obtain ⟨hs1, hs2⟩ := rp_ok s hp
  obtain ⟨rp0, hrd⟩ : ∃ z, z = (unpackRp s).1 := ⟨_, rfl⟩
  rw [← hrd] at hs1 hs2
  have hpair2 : unpackRp s = (rp0, 0) := Prod.ext hrd.symm hp
  have SR := Lib.hid hs1
  have SB0 := Lib.hid hs2
  rw [hpair] at C31
  rw [hpair2] at C38
  clear hpair hpair2 hq hp hr1 hr2 hqd hs1 hs2 hrd
  have qq : (s.toList == s.toList) = true := by simp
  have qn : (s.toList != s.toList) = false := by simp
  go_enter Try.func10, Try.ntmps10
  go_upto_region 5 with (go_at_call 24; refine (awakew_any _).mono ?_; rintro e w1 ⟨rfl, hb1⟩)
  have B1 := Lib.hid hb1
  clear hb1 d9
  go_wp2_with (fail)
  refine (C31.out _).mono ?_
  rintro e w2 ⟨f, l, c, p, i, rfl, hr2, hb2⟩
  have B2 := Lib.hid (B1.out.trans (belowLe B1.out.size hb2))
  have b3 := bel_allocRow51 w2 #[.int .i64 0, .int .i64 0, .string ⟨#[]⟩, .int .i64 0, .int .i64 0, .bool false, .slice none 0 0, .slice none 0 0, .slice none 0 0, .string ⟨#[]⟩, .int .i64 0, .int .i64 0, .slice none 0 0, .slice none 0 0, .string ⟨#[]⟩, .string ⟨#[]⟩, .int .i64 0, .string ⟨#[]⟩, .string ⟨#[]⟩, .string ⟨#[]⟩, .int .i64 0, .string ⟨#[]⟩, .int .i64 0] (rq q f l c p i)
  obtain ⟨w3, hw3⟩ : ∃ w3, w3 = (w2.alloc (.cells #[.int .i64 0, .int .i64 0, .string ⟨#[]⟩, .int .i64 0, .int .i64 0, .bool false, .slice none 0 0, .slice none 0 0, .slice none 0 0, .string ⟨#[]⟩, .int .i64 0, .int .i64 0, .slice none 0 0, .slice none 0 0, .string ⟨#[]⟩, .string ⟨#[]⟩, .int .i64 0, .string ⟨#[]⟩, .string ⟨#[]⟩, .string ⟨#[]⟩, .int .i64 0, .string ⟨#[]⟩, .int .i64 0] 51)).setRow w2.heap.size (rq q f l c p i) := ⟨_, rfl⟩
  rw [← hw3] at b3
  obtain ⟨u, hu⟩ : ∃ u, u = w2.heap.size := ⟨_, rfl⟩
  have U3 := Lib.hid (show w3.heap[u]? = some (.cells (rq q f l c p i) 51 (0, 0)) by rw [hw3, hu]; exact setRow_heap _ _ _ _ _ _ (G.heap_new _ _))
  have HW3 := Lib.hid hw3
  have HU := Lib.hid hu
  have R3 := Lib.hid (hr2.below b3)
  have B3 := Lib.hid (B2.out.trans (belowLe B2.out.size b3))
  clear hw3 hu b3 hr2 hb2
  dsimp only
  rename_i hK
  refine hK _ _ ?_
  clear hK
  go_upto_region 6 with ((refine wpList_store_row rfl 51 (.tmp 3) (.tmp 15) rfl _ (rq q f l c p i) rfl rfl 51 _ (G.heap_new _ _) size51 rfl (rq_one _ _ _ _ _ _) ?_); rw [← HW3.out, ← HU.out])
  repeat (first | ((refine wp_load_row 51 (.tmp 3) rfl u rfl 51 _ (0, 0) _ U3.out Try.underlying51 rfl size51 ?_); (try simp only [Act.put, List.setIfInBounds_toArray, List.set_cons_zero, List.set_cons_succ])) | go_values | go_skip | go_guarded | go_step)
  go_wp2_with (fail)
  refine (right27_any q f l c p i HLQ.out w3 R3.out).mono ?_
  rw [RB.out]
  rintro e w4 ⟨rfl, hb4⟩
  have U4 := Lib.hid ((hb4.block u (Array.getElem?_eq_some_iff.1 U3.out).1).trans U3.out)
  have R4 := Lib.hid (R3.out.below hb4)
  have B4 := Lib.hid (B3.out.trans (belowLe B3.out.size hb4))
  clear hb4
  dsimp only
  rename_i hK
  refine hK _ _ ?_
  clear hK
  repeat (first | ((refine wp_load_row 51 (.tmp 3) rfl u rfl 51 _ (0, 0) _ U4.out Try.underlying51 rfl size51 ?_); (try simp only [Act.put, List.setIfInBounds_toArray, List.set_cons_zero, List.set_cons_succ])) | go_values | go_skip | go_guarded | go_step)
  go_wp2_with (fail)
  refine (rqb_any q f l c p i HF.out w4 R4.out).mono ?_
  rw [BQ0.out]
  rintro e w5 ⟨rfl, hb5⟩
  have B5 := Lib.hid (B4.out.trans (belowLe B4.out.size hb5))
  clear hb5
  dsimp only
  rename_i hK
  refine hK _ _ ?_
  clear hK
  go_upto_region 8 with (fail)
  go_wp2_with (fail)
  refine (C38.out _).mono ?_
  rintro e w6 ⟨r, rfl, hrp, hro, hb6⟩
  have HRP := Lib.hid hrp
  have B6 := Lib.hid (B5.out.trans (belowLe B5.out.size hb6))
  have b7 := bel_allocRow60 w6 #[.int .i64 0, .int .i64 0, .slice none 0 0] (rc r)
  obtain ⟨w7, hw7⟩ : ∃ w7, w7 = (w6.alloc (.cells #[.int .i64 0, .int .i64 0, .slice none 0 0] 60)).setRow w6.heap.size (rc r) := ⟨_, rfl⟩
  rw [← hw7] at b7
  obtain ⟨v, hv⟩ : ∃ v, v = w6.heap.size := ⟨_, rfl⟩
  have V7 := Lib.hid (show w7.heap[v]? = some (.cells (rc r) 60 (0, 0)) by rw [hw7, hv]; exact setRow_heap _ _ _ _ _ _ (G.heap_new _ _))
  have HW7 := Lib.hid hw7
  have HV := Lib.hid hv
  have O7 := Lib.hid (hro.below b7)
  have B7 := Lib.hid (B6.out.trans (belowLe B6.out.size b7))
  clear hw7 hv b7 hro hb6 hrp
  dsimp only
  rename_i hK
  refine hK _ _ ?_
  clear hK
  go_upto_region 9 with ((refine wpList_store_row rfl 60 (.tmp 5) (.tmp 47) rfl _ (rc r) rfl rfl 60 _ (G.heap_new _ _) size60 rfl (rc_one r) ?_); rw [← HW7.out, ← HV.out])
  go_upto_region 11 with (fail)
  have hR : rightRp r.p = true := by rw [show r.p = rp0 from HRP.out]; exact SR.out
  have HR := Lib.hid hR
  have HBY := Lib.hid (show bytesRp r.p = s by rw [show r.p = rp0 from HRP.out]; exact SB0.out)
  clear hR
  go_wp2_with (refine wpList_load_row rfl 60 (.tmp 5) rfl v rfl 60 _ (0, 0) _ V7.out Try.underlying60 rfl size60 ?_)
  refine (right35_any r (RE.lens_of (rightP HR.out)) w7 O7.out).mono ?_
  rw [HR.out]
  rintro e w8 ⟨rfl, hb8⟩
  have V8 := Lib.hid ((hb8.block v (Array.getElem?_eq_some_iff.1 V7.out).1).trans V7.out)
  have O8 := Lib.hid (O7.out.below hb8)
  have B8 := Lib.hid (B7.out.trans (belowLe B7.out.size hb8))
  clear hb8
  dsimp only
  rename_i hK
  refine hK _ _ ?_
  clear hK
  repeat (first | ((refine wp_load_row 60 (.tmp 5) rfl v rfl 60 _ (0, 0) _ V8.out Try.underlying60 rfl size60 ?_); (try simp only [Act.put, List.setIfInBounds_toArray, List.set_cons_zero, List.set_cons_succ])) | go_values | go_skip | go_guarded | go_step)
  go_wp2_with (fail)
  refine (rpb_any r HR.out w8 O8.out).mono ?_
  rw [HBY.out]
  rintro e w9 ⟨rfl, hb9⟩
  have B9 := Lib.hid (B8.out.trans (belowLe B8.out.size hb9))
  clear hb9
  go_wp2
  go_ret
  exact ⟨rfl, B9.out⟩
set_option maxRecDepth 100000 in
set_option maxHeartbeats 8000000 in
theorem wreads_ok_bad (s : ByteArray) (hs : s.size ≤ 9000) (hq : (unpackRq s).2 = 0) (hp : (unpackRp s).2 ≠ 0) (w : World) :
    Calls Try.prog 10 #[.string s] w fun y w' => y = .returned (.bool true) ∧ Below w.heap.size w w' := by
  have d9 : decide ((9000 : Int) < s.size) = false := decide_eq_false (by omega)
  have C31 := Lib.hid (fun V => unpackq_any s (by omega) V)
  have C38 := Lib.hid (fun V => unpackp_any s (by omega) V)
  obtain ⟨hr1, hr2⟩ := req_ok s hq
  obtain ⟨q, hqd⟩ : ∃ q, q = (unpackRq s).1 := ⟨_, rfl⟩
  rw [← hqd] at hr1 hr2
  have hpair : unpackRq s = (q, 0) := Prod.ext hqd.symm hq
  have RB := Lib.hid hr1
  have BQ0 := Lib.hid hr2
  have HF := Lib.hid (rightF hr1)
  have HLQ := Lib.hid (rightF_len (rightF hr1))
  have hpair2 := rp_bad s hp
  rw [hpair] at C31
  rw [hpair2] at C38
  clear hpair hpair2 hq hp hr1 hr2 hqd
  have qq : (s.toList == s.toList) = true := by simp
  have qn : (s.toList != s.toList) = false := by simp
  go_enter Try.func10, Try.ntmps10
  go_upto_region 5 with (go_at_call 24; refine (awakew_any _).mono ?_; rintro e w1 ⟨rfl, hb1⟩)
  have B1 := Lib.hid hb1
  clear hb1 d9
  go_wp2_with (fail)
  refine (C31.out _).mono ?_
  rintro e w2 ⟨f, l, c, p, i, rfl, hr2, hb2⟩
  have B2 := Lib.hid (B1.out.trans (belowLe B1.out.size hb2))
  have b3 := bel_allocRow51 w2 #[.int .i64 0, .int .i64 0, .string ⟨#[]⟩, .int .i64 0, .int .i64 0, .bool false, .slice none 0 0, .slice none 0 0, .slice none 0 0, .string ⟨#[]⟩, .int .i64 0, .int .i64 0, .slice none 0 0, .slice none 0 0, .string ⟨#[]⟩, .string ⟨#[]⟩, .int .i64 0, .string ⟨#[]⟩, .string ⟨#[]⟩, .string ⟨#[]⟩, .int .i64 0, .string ⟨#[]⟩, .int .i64 0] (rq q f l c p i)
  obtain ⟨w3, hw3⟩ : ∃ w3, w3 = (w2.alloc (.cells #[.int .i64 0, .int .i64 0, .string ⟨#[]⟩, .int .i64 0, .int .i64 0, .bool false, .slice none 0 0, .slice none 0 0, .slice none 0 0, .string ⟨#[]⟩, .int .i64 0, .int .i64 0, .slice none 0 0, .slice none 0 0, .string ⟨#[]⟩, .string ⟨#[]⟩, .int .i64 0, .string ⟨#[]⟩, .string ⟨#[]⟩, .string ⟨#[]⟩, .int .i64 0, .string ⟨#[]⟩, .int .i64 0] 51)).setRow w2.heap.size (rq q f l c p i) := ⟨_, rfl⟩
  rw [← hw3] at b3
  obtain ⟨u, hu⟩ : ∃ u, u = w2.heap.size := ⟨_, rfl⟩
  have U3 := Lib.hid (show w3.heap[u]? = some (.cells (rq q f l c p i) 51 (0, 0)) by rw [hw3, hu]; exact setRow_heap _ _ _ _ _ _ (G.heap_new _ _))
  have HW3 := Lib.hid hw3
  have HU := Lib.hid hu
  have R3 := Lib.hid (hr2.below b3)
  have B3 := Lib.hid (B2.out.trans (belowLe B2.out.size b3))
  clear hw3 hu b3 hr2 hb2
  dsimp only
  rename_i hK
  refine hK _ _ ?_
  clear hK
  go_upto_region 6 with ((refine wpList_store_row rfl 51 (.tmp 3) (.tmp 15) rfl _ (rq q f l c p i) rfl rfl 51 _ (G.heap_new _ _) size51 rfl (rq_one _ _ _ _ _ _) ?_); rw [← HW3.out, ← HU.out])
  repeat (first | ((refine wp_load_row 51 (.tmp 3) rfl u rfl 51 _ (0, 0) _ U3.out Try.underlying51 rfl size51 ?_); (try simp only [Act.put, List.setIfInBounds_toArray, List.set_cons_zero, List.set_cons_succ])) | go_values | go_skip | go_guarded | go_step)
  go_wp2_with (fail)
  refine (right27_any q f l c p i HLQ.out w3 R3.out).mono ?_
  rw [RB.out]
  rintro e w4 ⟨rfl, hb4⟩
  have U4 := Lib.hid ((hb4.block u (Array.getElem?_eq_some_iff.1 U3.out).1).trans U3.out)
  have R4 := Lib.hid (R3.out.below hb4)
  have B4 := Lib.hid (B3.out.trans (belowLe B3.out.size hb4))
  clear hb4
  dsimp only
  rename_i hK
  refine hK _ _ ?_
  clear hK
  repeat (first | ((refine wp_load_row 51 (.tmp 3) rfl u rfl 51 _ (0, 0) _ U4.out Try.underlying51 rfl size51 ?_); (try simp only [Act.put, List.setIfInBounds_toArray, List.set_cons_zero, List.set_cons_succ])) | go_values | go_skip | go_guarded | go_step)
  go_wp2_with (fail)
  refine (rqb_any q f l c p i HF.out w4 R4.out).mono ?_
  rw [BQ0.out]
  rintro e w5 ⟨rfl, hb5⟩
  have B5 := Lib.hid (B4.out.trans (belowLe B4.out.size hb5))
  clear hb5
  dsimp only
  rename_i hK
  refine hK _ _ ?_
  clear hK
  go_upto_region 8 with (fail)
  go_wp2_with (fail)
  refine (C38.out _).mono ?_
  rintro e w6 ⟨r, rfl, hrp, hro, hb6⟩
  have HRP := Lib.hid hrp
  have B6 := Lib.hid (B5.out.trans (belowLe B5.out.size hb6))
  have b7 := bel_allocRow60 w6 #[.int .i64 0, .int .i64 0, .slice none 0 0] (rc r)
  obtain ⟨w7, hw7⟩ : ∃ w7, w7 = (w6.alloc (.cells #[.int .i64 0, .int .i64 0, .slice none 0 0] 60)).setRow w6.heap.size (rc r) := ⟨_, rfl⟩
  rw [← hw7] at b7
  obtain ⟨v, hv⟩ : ∃ v, v = w6.heap.size := ⟨_, rfl⟩
  have V7 := Lib.hid (show w7.heap[v]? = some (.cells (rc r) 60 (0, 0)) by rw [hw7, hv]; exact setRow_heap _ _ _ _ _ _ (G.heap_new _ _))
  have HW7 := Lib.hid hw7
  have HV := Lib.hid hv
  have O7 := Lib.hid (hro.below b7)
  have B7 := Lib.hid (B6.out.trans (belowLe B6.out.size b7))
  clear hw7 hv b7 hro hb6 hrp
  dsimp only
  rename_i hK
  refine hK _ _ ?_
  clear hK
  go_upto_region 9 with ((refine wpList_store_row rfl 60 (.tmp 5) (.tmp 47) rfl _ (rc r) rfl rfl 60 _ (G.heap_new _ _) size60 rfl (rc_one r) ?_); rw [← HW7.out, ← HV.out])
  go_upto_region 10 with (fail)
  have hz : r.p = zeroRp := HRP.out
  have HZP := Lib.hid hz
  clear hz
  repeat (first | ((refine wp_load_row 60 (.tmp 5) rfl v rfl 60 _ (0, 0) _ V7.out Try.underlying60 rfl size60 ?_); (try simp only [Act.put, List.setIfInBounds_toArray, List.set_cons_zero, List.set_cons_succ])) | go_values | go_skip | go_guarded | go_step)
  go_wp2_with (fail)
  refine (rsamerp_any r r0 (lens_nil HZP.out) r0_len w7 O7.out (ObsR.nil _)).mono ?_
  rw [show sameRp r.p r0.p = true by rw [HZP.out]; exact sameRp_self _]
  rintro e w8 ⟨rfl, hb8⟩
  have B8 := Lib.hid (B7.out.trans (belowLe B7.out.size hb8))
  clear hb8
  go_wp2
  go_ret
  exact ⟨rfl, B8.out⟩
set_option maxRecDepth 100000 in
set_option maxHeartbeats 8000000 in
theorem wreads_bad_ok (s : ByteArray) (hs : s.size ≤ 9000) (hq : (unpackRq s).2 ≠ 0) (hp : (unpackRp s).2 = 0) (w : World) :
    Calls Try.prog 10 #[.string s] w fun y w' => y = .returned (.bool true) ∧ Below w.heap.size w w' := by
  have d9 : decide ((9000 : Int) < s.size) = false := decide_eq_false (by omega)
  have C31 := Lib.hid (fun V => unpackq_any s (by omega) V)
  have C38 := Lib.hid (fun V => unpackp_any s (by omega) V)
  have hpair := req_bad s hq
  obtain ⟨hs1, hs2⟩ := rp_ok s hp
  obtain ⟨rp0, hrd⟩ : ∃ z, z = (unpackRp s).1 := ⟨_, rfl⟩
  rw [← hrd] at hs1 hs2
  have hpair2 : unpackRp s = (rp0, 0) := Prod.ext hrd.symm hp
  have SR := Lib.hid hs1
  have SB0 := Lib.hid hs2
  rw [hpair] at C31
  rw [hpair2] at C38
  clear hpair hpair2 hq hp hs1 hs2 hrd
  have qq : (s.toList == s.toList) = true := by simp
  have qn : (s.toList != s.toList) = false := by simp
  go_enter Try.func10, Try.ntmps10
  go_upto_region 5 with (go_at_call 24; refine (awakew_any _).mono ?_; rintro e w1 ⟨rfl, hb1⟩)
  have B1 := Lib.hid hb1
  clear hb1 d9
  go_wp2_with (fail)
  refine (C31.out _).mono ?_
  rintro e w2 ⟨f, l, c, p, i, rfl, hr2, hb2⟩
  have B2 := Lib.hid (B1.out.trans (belowLe B1.out.size hb2))
  have b3 := bel_allocRow51 w2 #[.int .i64 0, .int .i64 0, .string ⟨#[]⟩, .int .i64 0, .int .i64 0, .bool false, .slice none 0 0, .slice none 0 0, .slice none 0 0, .string ⟨#[]⟩, .int .i64 0, .int .i64 0, .slice none 0 0, .slice none 0 0, .string ⟨#[]⟩, .string ⟨#[]⟩, .int .i64 0, .string ⟨#[]⟩, .string ⟨#[]⟩, .string ⟨#[]⟩, .int .i64 0, .string ⟨#[]⟩, .int .i64 0] (rq zeroRq f l c p i)
  obtain ⟨w3, hw3⟩ : ∃ w3, w3 = (w2.alloc (.cells #[.int .i64 0, .int .i64 0, .string ⟨#[]⟩, .int .i64 0, .int .i64 0, .bool false, .slice none 0 0, .slice none 0 0, .slice none 0 0, .string ⟨#[]⟩, .int .i64 0, .int .i64 0, .slice none 0 0, .slice none 0 0, .string ⟨#[]⟩, .string ⟨#[]⟩, .int .i64 0, .string ⟨#[]⟩, .string ⟨#[]⟩, .string ⟨#[]⟩, .int .i64 0, .string ⟨#[]⟩, .int .i64 0] 51)).setRow w2.heap.size (rq zeroRq f l c p i) := ⟨_, rfl⟩
  rw [← hw3] at b3
  obtain ⟨u, hu⟩ : ∃ u, u = w2.heap.size := ⟨_, rfl⟩
  have U3 := Lib.hid (show w3.heap[u]? = some (.cells (rq zeroRq f l c p i) 51 (0, 0)) by rw [hw3, hu]; exact setRow_heap _ _ _ _ _ _ (G.heap_new _ _))
  have HW3 := Lib.hid hw3
  have HU := Lib.hid hu
  have R3 := Lib.hid (hr2.below b3)
  have B3 := Lib.hid (B2.out.trans (belowLe B2.out.size b3))
  clear hw3 hu b3 hr2 hb2
  dsimp only
  rename_i hK
  refine hK _ _ ?_
  clear hK
  go_upto_region 6 with ((refine wpList_store_row rfl 51 (.tmp 3) (.tmp 15) rfl _ (rq zeroRq f l c p i) rfl rfl 51 _ (G.heap_new _ _) size51 rfl (rq_one _ _ _ _ _ _) ?_); rw [← HW3.out, ← HU.out])
  iterate 36 (first | go_values | go_skip | go_guarded | go_step)
  refine wp_load_row 51 (.tmp 3) rfl u rfl 51 _ (0, 0) _ U3.out Try.underlying51 rfl size51 ?_
  (try simp only [Act.put, List.setIfInBounds_toArray, List.set_cons_zero, List.set_cons_succ])
  iterate 6 (first | go_values | go_skip | go_guarded | go_step)
  refine (rsamerq_any zeroRq zeroRq f l c p i Sl0 Sl0 Sl0 Sl0 Sl0 zero_len w3 R3.out (RowsR.zero _)).mono ?_
  rw [sameRq_self]
  rintro e w5 ⟨rfl, hb5⟩
  have B5 := Lib.hid (B3.out.trans (belowLe B3.out.size hb5))
  clear hb5
  dsimp only
  rename_i hK
  refine hK _ _ ?_
  clear hK
  go_upto_region 8 with (fail)
  go_wp2_with (fail)
  refine (C38.out _).mono ?_
  rintro e w6 ⟨r, rfl, hrp, hro, hb6⟩
  have HRP := Lib.hid hrp
  have B6 := Lib.hid (B5.out.trans (belowLe B5.out.size hb6))
  have b7 := bel_allocRow60 w6 #[.int .i64 0, .int .i64 0, .slice none 0 0] (rc r)
  obtain ⟨w7, hw7⟩ : ∃ w7, w7 = (w6.alloc (.cells #[.int .i64 0, .int .i64 0, .slice none 0 0] 60)).setRow w6.heap.size (rc r) := ⟨_, rfl⟩
  rw [← hw7] at b7
  obtain ⟨v, hv⟩ : ∃ v, v = w6.heap.size := ⟨_, rfl⟩
  have V7 := Lib.hid (show w7.heap[v]? = some (.cells (rc r) 60 (0, 0)) by rw [hw7, hv]; exact setRow_heap _ _ _ _ _ _ (G.heap_new _ _))
  have HW7 := Lib.hid hw7
  have HV := Lib.hid hv
  have O7 := Lib.hid (hro.below b7)
  have B7 := Lib.hid (B6.out.trans (belowLe B6.out.size b7))
  clear hw7 hv b7 hro hb6 hrp
  dsimp only
  rename_i hK
  refine hK _ _ ?_
  clear hK
  go_upto_region 9 with ((refine wpList_store_row rfl 60 (.tmp 5) (.tmp 47) rfl _ (rc r) rfl rfl 60 _ (G.heap_new _ _) size60 rfl (rc_one r) ?_); rw [← HW7.out, ← HV.out])
  go_upto_region 11 with (fail)
  have hR : rightRp r.p = true := by rw [show r.p = rp0 from HRP.out]; exact SR.out
  have HR := Lib.hid hR
  have HBY := Lib.hid (show bytesRp r.p = s by rw [show r.p = rp0 from HRP.out]; exact SB0.out)
  clear hR
  go_wp2_with (refine wpList_load_row rfl 60 (.tmp 5) rfl v rfl 60 _ (0, 0) _ V7.out Try.underlying60 rfl size60 ?_)
  refine (right35_any r (RE.lens_of (rightP HR.out)) w7 O7.out).mono ?_
  rw [HR.out]
  rintro e w8 ⟨rfl, hb8⟩
  have V8 := Lib.hid ((hb8.block v (Array.getElem?_eq_some_iff.1 V7.out).1).trans V7.out)
  have O8 := Lib.hid (O7.out.below hb8)
  have B8 := Lib.hid (B7.out.trans (belowLe B7.out.size hb8))
  clear hb8
  dsimp only
  rename_i hK
  refine hK _ _ ?_
  clear hK
  repeat (first | ((refine wp_load_row 60 (.tmp 5) rfl v rfl 60 _ (0, 0) _ V8.out Try.underlying60 rfl size60 ?_); (try simp only [Act.put, List.setIfInBounds_toArray, List.set_cons_zero, List.set_cons_succ])) | go_values | go_skip | go_guarded | go_step)
  go_wp2_with (fail)
  refine (rpb_any r HR.out w8 O8.out).mono ?_
  rw [HBY.out]
  rintro e w9 ⟨rfl, hb9⟩
  have B9 := Lib.hid (B8.out.trans (belowLe B8.out.size hb9))
  clear hb9
  go_wp2
  go_ret
  exact ⟨rfl, B9.out⟩
set_option maxRecDepth 100000 in
set_option maxHeartbeats 8000000 in
theorem wreads_bad_bad (s : ByteArray) (hs : s.size ≤ 9000) (hq : (unpackRq s).2 ≠ 0) (hp : (unpackRp s).2 ≠ 0) (w : World) :
    Calls Try.prog 10 #[.string s] w fun y w' => y = .returned (.bool true) ∧ Below w.heap.size w w' := by
  have d9 : decide ((9000 : Int) < s.size) = false := decide_eq_false (by omega)
  have C31 := Lib.hid (fun V => unpackq_any s (by omega) V)
  have C38 := Lib.hid (fun V => unpackp_any s (by omega) V)
  have hpair := req_bad s hq
  have hpair2 := rp_bad s hp
  rw [hpair] at C31
  rw [hpair2] at C38
  clear hpair hpair2 hq hp
  have qq : (s.toList == s.toList) = true := by simp
  have qn : (s.toList != s.toList) = false := by simp
  go_enter Try.func10, Try.ntmps10
  go_upto_region 5 with (go_at_call 24; refine (awakew_any _).mono ?_; rintro e w1 ⟨rfl, hb1⟩)
  have B1 := Lib.hid hb1
  clear hb1 d9
  go_wp2_with (fail)
  refine (C31.out _).mono ?_
  rintro e w2 ⟨f, l, c, p, i, rfl, hr2, hb2⟩
  have B2 := Lib.hid (B1.out.trans (belowLe B1.out.size hb2))
  have b3 := bel_allocRow51 w2 #[.int .i64 0, .int .i64 0, .string ⟨#[]⟩, .int .i64 0, .int .i64 0, .bool false, .slice none 0 0, .slice none 0 0, .slice none 0 0, .string ⟨#[]⟩, .int .i64 0, .int .i64 0, .slice none 0 0, .slice none 0 0, .string ⟨#[]⟩, .string ⟨#[]⟩, .int .i64 0, .string ⟨#[]⟩, .string ⟨#[]⟩, .string ⟨#[]⟩, .int .i64 0, .string ⟨#[]⟩, .int .i64 0] (rq zeroRq f l c p i)
  obtain ⟨w3, hw3⟩ : ∃ w3, w3 = (w2.alloc (.cells #[.int .i64 0, .int .i64 0, .string ⟨#[]⟩, .int .i64 0, .int .i64 0, .bool false, .slice none 0 0, .slice none 0 0, .slice none 0 0, .string ⟨#[]⟩, .int .i64 0, .int .i64 0, .slice none 0 0, .slice none 0 0, .string ⟨#[]⟩, .string ⟨#[]⟩, .int .i64 0, .string ⟨#[]⟩, .string ⟨#[]⟩, .string ⟨#[]⟩, .int .i64 0, .string ⟨#[]⟩, .int .i64 0] 51)).setRow w2.heap.size (rq zeroRq f l c p i) := ⟨_, rfl⟩
  rw [← hw3] at b3
  obtain ⟨u, hu⟩ : ∃ u, u = w2.heap.size := ⟨_, rfl⟩
  have U3 := Lib.hid (show w3.heap[u]? = some (.cells (rq zeroRq f l c p i) 51 (0, 0)) by rw [hw3, hu]; exact setRow_heap _ _ _ _ _ _ (G.heap_new _ _))
  have HW3 := Lib.hid hw3
  have HU := Lib.hid hu
  have R3 := Lib.hid (hr2.below b3)
  have B3 := Lib.hid (B2.out.trans (belowLe B2.out.size b3))
  clear hw3 hu b3 hr2 hb2
  dsimp only
  rename_i hK
  refine hK _ _ ?_
  clear hK
  go_upto_region 6 with ((refine wpList_store_row rfl 51 (.tmp 3) (.tmp 15) rfl _ (rq zeroRq f l c p i) rfl rfl 51 _ (G.heap_new _ _) size51 rfl (rq_one _ _ _ _ _ _) ?_); rw [← HW3.out, ← HU.out])
  iterate 36 (first | go_values | go_skip | go_guarded | go_step)
  refine wp_load_row 51 (.tmp 3) rfl u rfl 51 _ (0, 0) _ U3.out Try.underlying51 rfl size51 ?_
  (try simp only [Act.put, List.setIfInBounds_toArray, List.set_cons_zero, List.set_cons_succ])
  iterate 6 (first | go_values | go_skip | go_guarded | go_step)
  refine (rsamerq_any zeroRq zeroRq f l c p i Sl0 Sl0 Sl0 Sl0 Sl0 zero_len w3 R3.out (RowsR.zero _)).mono ?_
  rw [sameRq_self]
  rintro e w5 ⟨rfl, hb5⟩
  have B5 := Lib.hid (B3.out.trans (belowLe B3.out.size hb5))
  clear hb5
  dsimp only
  rename_i hK
  refine hK _ _ ?_
  clear hK
  go_upto_region 8 with (fail)
  go_wp2_with (fail)
  refine (C38.out _).mono ?_
  rintro e w6 ⟨r, rfl, hrp, hro, hb6⟩
  have HRP := Lib.hid hrp
  have B6 := Lib.hid (B5.out.trans (belowLe B5.out.size hb6))
  have b7 := bel_allocRow60 w6 #[.int .i64 0, .int .i64 0, .slice none 0 0] (rc r)
  obtain ⟨w7, hw7⟩ : ∃ w7, w7 = (w6.alloc (.cells #[.int .i64 0, .int .i64 0, .slice none 0 0] 60)).setRow w6.heap.size (rc r) := ⟨_, rfl⟩
  rw [← hw7] at b7
  obtain ⟨v, hv⟩ : ∃ v, v = w6.heap.size := ⟨_, rfl⟩
  have V7 := Lib.hid (show w7.heap[v]? = some (.cells (rc r) 60 (0, 0)) by rw [hw7, hv]; exact setRow_heap _ _ _ _ _ _ (G.heap_new _ _))
  have HW7 := Lib.hid hw7
  have HV := Lib.hid hv
  have O7 := Lib.hid (hro.below b7)
  have B7 := Lib.hid (B6.out.trans (belowLe B6.out.size b7))
  clear hw7 hv b7 hro hb6 hrp
  dsimp only
  rename_i hK
  refine hK _ _ ?_
  clear hK
  go_upto_region 9 with ((refine wpList_store_row rfl 60 (.tmp 5) (.tmp 47) rfl _ (rc r) rfl rfl 60 _ (G.heap_new _ _) size60 rfl (rc_one r) ?_); rw [← HW7.out, ← HV.out])
  go_upto_region 10 with (fail)
  have hz : r.p = zeroRp := HRP.out
  have HZP := Lib.hid hz
  clear hz
  repeat (first | ((refine wp_load_row 60 (.tmp 5) rfl v rfl 60 _ (0, 0) _ V7.out Try.underlying60 rfl size60 ?_); (try simp only [Act.put, List.setIfInBounds_toArray, List.set_cons_zero, List.set_cons_succ])) | go_values | go_skip | go_guarded | go_step)
  go_wp2_with (fail)
  refine (rsamerp_any r r0 (lens_nil HZP.out) r0_len w7 O7.out (ObsR.nil _)).mono ?_
  rw [show sameRp r.p r0.p = true by rw [HZP.out]; exact sameRp_self _]
  rintro e w8 ⟨rfl, hb8⟩
  have B8 := Lib.hid (B7.out.trans (belowLe B7.out.size hb8))
  clear hb8
  go_wp2
  go_ret
  exact ⟨rfl, B8.out⟩
theorem wreads_row (s : ByteArray) (hs : s.size ≤ 140737488351232) (w : World) :
    Calls Try.prog 10 #[.string s] w fun y w' => y = .returned (.bool true) ∧ Below w.heap.size w w' := by
  by_cases h : s.size ≤ 9000
  rotate_left
  · exact wreads_big s hs h w
  by_cases hq : (unpackRq s).2 = 0
  · by_cases hp : (unpackRp s).2 = 0
    · exact wreads_ok_ok s h hq hp w
    · exact wreads_ok_bad s h hq hp w
  · by_cases hp : (unpackRp s).2 = 0
    · exact wreads_bad_ok s h hq hp w
    · exact wreads_bad_bad s h hq hp w
end Go.Proofs.Ytolndeolehkjoaa
