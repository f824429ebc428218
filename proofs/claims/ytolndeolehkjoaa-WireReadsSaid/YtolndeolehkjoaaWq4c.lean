/- Requests: may one be? -/
import Derived.Test.YtolndeolehkjoaaWq2c
namespace Go.Proofs.Ytolndeolehkjoaa
set_option linter.unusedVariables false
set_option linter.unusedSimpArgs false
open Go.RowKit CodP
theorem bareq_any (q : Rq) (f l c p i : Sl) (hk : 1 ≤ q.op ∧ q.op ≤ 5) (w : World) (hr : RowsR w q.ob f l c p i) :
    Calls Try.prog 56 #[.agg (rq q f l c p i)] w fun e w' => ∃ f' l' c' p' i', e = .returned (.agg (rq (bareQ q) f' l' c' p' i')) ∧ RowsR w' (bareQ q).ob f' l' c' p' i' ∧ Below w.heap.size w w' := by
  rcases (by omega : q.op = 1 ∨ q.op = 2 ∨ q.op = 3 ∨ q.op = 4 ∨ q.op = 5) with h | h | h | h | h
  · refine (bareq_1 q f l c p i h w).mono ?_
    rintro e w' ⟨rfl, hb⟩
    have hob : (bareQ q).ob = zeroOb := by unfold bareQ; rw [if_pos (by omega)]
    refine ⟨_, _, _, _, _, rfl, ?_, hb⟩
    rw [hob]
    exact RowsR.zero _
  · refine (bareq_2 q f l c p i h w).mono ?_
    rintro e w' ⟨rfl, hb⟩
    have hob : (bareQ q).ob = zeroOb := by unfold bareQ; rw [if_pos (by omega)]
    refine ⟨_, _, _, _, _, rfl, ?_, hb⟩
    rw [hob]
    exact RowsR.zero _
  · refine (bareq_3 q f l c p i h w).mono ?_
    rintro e w' ⟨rfl, hb⟩
    have hob : (bareQ q).ob = q.ob := by unfold bareQ; rw [if_neg (by omega), if_pos (by omega)]
    refine ⟨_, _, _, _, _, rfl, ?_, hb⟩
    rw [hob]
    exact hr.below hb
  · refine (bareq_4 q f l c p i h w).mono ?_
    rintro e w' ⟨rfl, hb⟩
    have hob : (bareQ q).ob = q.ob := by unfold bareQ; rw [if_neg (by omega), if_neg (by omega), if_pos (by omega)]
    refine ⟨_, _, _, _, _, rfl, ?_, hb⟩
    rw [hob]
    exact hr.below hb
  · refine (bareq_5 q f l c p i h w).mono ?_
    rintro e w' ⟨rfl, hb⟩
    have hob : (bareQ q).ob = q.ob := by unfold bareQ; rw [if_neg (by omega), if_neg (by omega), if_neg (by omega)]
    refine ⟨_, _, _, _, _, rfl, ?_, hb⟩
    rw [hob]
    exact hr.below hb
theorem onlyq_any (q : Rq) (f l c p i : Sl) (hk : 1 ≤ q.op ∧ q.op ≤ 5) (w : World) (hr : RowsR w q.ob f l c p i) :
    Calls Try.prog 29 #[.agg (rq q f l c p i)] w fun e w' => ∃ f' l' c' p' i', e = .returned (.agg (rq (onlyQ q) f' l' c' p' i')) ∧ RowsR w' (onlyQ q).ob f' l' c' p' i' ∧ Below w.heap.size w w' := by
  rcases (by omega : q.op = 1 ∨ q.op = 2 ∨ q.op = 3 ∨ q.op = 4 ∨ q.op = 5) with h | h | h | h | h
  · refine (onlyq_1 q f l c p i h w).mono ?_
    rintro e w' ⟨rfl, hb⟩
    have hob : (onlyQ q).ob = q.ob := by unfold onlyQ; rw [if_pos (by omega)]
    refine ⟨_, _, _, _, _, rfl, ?_, hb⟩
    rw [hob]
    exact hr.below hb
  · refine (onlyq_2 q f l c p i h w).mono ?_
    rintro e w' ⟨rfl, hb⟩
    have hob : (onlyQ q).ob = q.ob := by unfold onlyQ; rw [if_pos (by omega)]
    refine ⟨_, _, _, _, _, rfl, ?_, hb⟩
    rw [hob]
    exact hr.below hb
  · refine (onlyq_3 q f l c p i h w).mono ?_
    rintro e w' ⟨rfl, hb⟩
    have hob : (onlyQ q).ob = zeroOb := by unfold onlyQ; rw [if_neg (by omega), if_pos (by omega)]
    refine ⟨_, _, _, _, _, rfl, ?_, hb⟩
    rw [hob]
    exact RowsR.zero _
  · refine (onlyq_4 q f l c p i h w).mono ?_
    rintro e w' ⟨rfl, hb⟩
    have hob : (onlyQ q).ob = zeroOb := by unfold onlyQ; rw [if_neg (by omega), if_neg (by omega), if_pos (by omega)]
    refine ⟨_, _, _, _, _, rfl, ?_, hb⟩
    rw [hob]
    exact RowsR.zero _
  · refine (onlyq_5 q f l c p i h w).mono ?_
    rintro e w' ⟨rfl, hb⟩
    have hob : (onlyQ q).ob = zeroOb := by unfold onlyQ; rw [if_neg (by omega), if_neg (by omega), if_neg (by omega)]; rfl
    refine ⟨_, _, _, _, _, rfl, ?_, hb⟩
    rw [hob]
    exact RowsR.zero _
theorem bare_len (q : Rq) (h : q.ob.fins.length ≤ 1000000 ∧ q.ob.labels.length ≤ 1000000 ∧ q.ob.cidrs.length ≤ 1000000 ∧ q.ob.fams.length ≤ 1000000 ∧ q.ob.ips.length ≤ 1000000) : (bareQ q).ob.fins.length ≤ 1000000 ∧ (bareQ q).ob.labels.length ≤ 1000000 ∧ (bareQ q).ob.cidrs.length ≤ 1000000 ∧ (bareQ q).ob.fams.length ≤ 1000000 ∧ (bareQ q).ob.ips.length ≤ 1000000 := by
  unfold bareQ
  split
  · exact zero_len
  split
  · exact h
  split
  · exact h
  · exact h
def onlyRB (q : Rq) : Bool := sameRq (bareQ q) zeroRq
theorem onlyRB_ref (q : Rq) (hk : 1 ≤ q.op ∧ q.op ≤ 5) : sameRq q (onlyQ q) = onlyRB q := by
  unfold onlyRB
  rcases (by omega : q.op = 1 ∨ q.op = 2 ∨ q.op = 3 ∨ q.op = 4 ∨ q.op = 5) with h | h | h | h | h
  · unfold onlyQ bareQ
    rw [if_pos (by omega), if_pos (by omega)]
    simp [sameRq, zeroRq, sameB_self] <;> rfl
  · unfold onlyQ bareQ
    rw [if_pos (by omega), if_pos (by omega)]
    simp [sameRq, zeroRq, sameB_self] <;> rfl
  · unfold onlyQ bareQ
    rw [if_neg (by omega), if_pos (by omega), if_neg (by omega), if_pos (by omega)]
    simp [sameRq, zeroRq, sameB_self] <;> rfl
  · unfold onlyQ bareQ
    rw [if_neg (by omega), if_neg (by omega), if_pos (by omega), if_neg (by omega), if_neg (by omega), if_pos (by omega)]
    simp [sameRq, zeroRq, sameB_self] <;> rfl
  · unfold onlyQ bareQ
    rw [if_neg (by omega), if_neg (by omega), if_neg (by omega), if_neg (by omega), if_neg (by omega), if_neg (by omega)]
    simp [sameRq, zeroRq, sameB_self] <;> rfl
def okRest (q : Rq) : Bool := inR (q.kind - 1) 3 && (decide (q.name.size ≤ 200) && inR q.version 1099511627776)
def rightB (q : Rq) : Bool := inR (q.op - 1) 4 && (onlyRB q && (if wholeB q.op = true then CodP.shape q.ob else okRest q))
theorem one_rq (w : World) (cs : Array Value) : ∃ w1, w1 = w.alloc (.cells cs 51) ∧ Below w.heap.size w w1 ∧ w1.heap[w.heap.size]? = some (.cells cs 51 (0, 0)) := ⟨_, rfl, bel_alloc _ _, G.heap_new _ _⟩
theorem keepQ {w1 V V' : World} {x : Nat} {A : Obj} (hl : x < w1.heap.size) (h : V.heap[x]? = some A ∧ Below w1.heap.size w1 V) (hb : Below V.heap.size V V') : V'.heap[x]? = some A ∧ Below w1.heap.size w1 V' :=
  ⟨(hb.block x (Nat.lt_of_lt_of_le hl h.2.size)).trans h.1, G.bthen h.2 hb⟩
set_option maxRecDepth 100000 in
set_option maxHeartbeats 4000000 in
theorem right26_0 (q : Rq) (f l c p i : Sl) (hs : q.ob.fins.length ≤ 1000000 ∧ q.ob.labels.length ≤ 1000000 ∧ q.ob.cidrs.length ≤ 1000000 ∧ q.ob.fams.length ≤ 1000000 ∧ q.ob.ips.length ≤ 1000000) (h0 : q.op < 1) (w : World) (hr : RowsR w q.ob f l c p i) :
    Calls Try.prog 26 #[.agg (rq q f l c p i)] w fun e w' => e = .returned (.bool (rightB q)) ∧ Below w.heap.size w w' := by
  obtain ⟨w1, hw1, b1, p1⟩ := one_rq w (rq q f l c p i)
  obtain ⟨x, hx⟩ : ∃ x, x = w.heap.size := ⟨_, rfl⟩
  have lw := Lib.hid (show x < w1.heap.size by rw [hx]; exact (Array.getElem?_eq_some_iff.1 p1).1)
  rw [← hx] at p1
  obtain ⟨ka0, ka20, ka21, ka22⟩ := rq_at x q f l c p i
  have R1 := Lib.hid (hr.below b1)
  have HSZ := Lib.hid hs
  have HW := Lib.hid hw1
  have B1 := Lib.hid b1
  have P1 := Lib.hid p1
  have KA0 := Lib.hid ka0
  have KA20 := Lib.hid ka20
  have KA21 := Lib.hid ka21
  have KA22 := Lib.hid ka22
  have hS : rightB q = false := by
    unfold rightB
    rw [show inR (q.op - 1) 4 = false from decide_eq_false (by omega), Bool.false_and]
  have HS := Lib.hid hS
  clear hS
  have d0 : decide (q.op < 1) = true := decide_eq_true h0
  clear b1 p1 hw1 hr hs ka0 ka20 ka21 ka22
  go_enter Try.func26, Try.ntmps26
  go_upto_region 1 with (fail)
  rw [← HW.out, ← hx]
  clear hx
  have cx := KA0.out _ P1.out
  go_wp2
  go_ret
  exact ⟨by rw [HS.out]; rfl, B1.out⟩
set_option maxRecDepth 100000 in
set_option maxHeartbeats 4000000 in
theorem right26_1 (q : Rq) (f l c p i : Sl) (hs : q.ob.fins.length ≤ 1000000 ∧ q.ob.labels.length ≤ 1000000 ∧ q.ob.cidrs.length ≤ 1000000 ∧ q.ob.fams.length ≤ 1000000 ∧ q.ob.ips.length ≤ 1000000) (h0 : ¬ q.op < 1) (h1 : 5 < q.op) (w : World) (hr : RowsR w q.ob f l c p i) :
    Calls Try.prog 26 #[.agg (rq q f l c p i)] w fun e w' => e = .returned (.bool (rightB q)) ∧ Below w.heap.size w w' := by
  obtain ⟨w1, hw1, b1, p1⟩ := one_rq w (rq q f l c p i)
  obtain ⟨x, hx⟩ : ∃ x, x = w.heap.size := ⟨_, rfl⟩
  have lw := Lib.hid (show x < w1.heap.size by rw [hx]; exact (Array.getElem?_eq_some_iff.1 p1).1)
  rw [← hx] at p1
  obtain ⟨ka0, ka20, ka21, ka22⟩ := rq_at x q f l c p i
  have R1 := Lib.hid (hr.below b1)
  have HSZ := Lib.hid hs
  have HW := Lib.hid hw1
  have B1 := Lib.hid b1
  have P1 := Lib.hid p1
  have KA0 := Lib.hid ka0
  have KA20 := Lib.hid ka20
  have KA21 := Lib.hid ka21
  have KA22 := Lib.hid ka22
  have hS : rightB q = false := by
    unfold rightB
    rw [show inR (q.op - 1) 4 = false from decide_eq_false (by omega), Bool.false_and]
  have HS := Lib.hid hS
  clear hS
  have d0 : decide (q.op < 1) = false := decide_eq_false h0
  have d1 : decide (5 < q.op) = true := decide_eq_true h1
  clear b1 p1 hw1 hr hs ka0 ka20 ka21 ka22
  go_enter Try.func26, Try.ntmps26
  go_upto_region 1 with (fail)
  rw [← HW.out, ← hx]
  clear hx
  have cx := KA0.out _ P1.out
  go_wp2
  go_ret
  exact ⟨by rw [HS.out]; rfl, B1.out⟩
set_option maxRecDepth 100000 in
set_option maxHeartbeats 4000000 in
theorem right26_2 (q : Rq) (f l c p i : Sl) (hs : q.ob.fins.length ≤ 1000000 ∧ q.ob.labels.length ≤ 1000000 ∧ q.ob.cidrs.length ≤ 1000000 ∧ q.ob.fams.length ≤ 1000000 ∧ q.ob.ips.length ≤ 1000000) (h0 : ¬ q.op < 1) (h1 : ¬ 5 < q.op) (h2 : onlyRB q = false) (w : World) (hr : RowsR w q.ob f l c p i) :
    Calls Try.prog 26 #[.agg (rq q f l c p i)] w fun e w' => e = .returned (.bool (rightB q)) ∧ Below w.heap.size w w' := by
  obtain ⟨w1, hw1, b1, p1⟩ := one_rq w (rq q f l c p i)
  obtain ⟨x, hx⟩ : ∃ x, x = w.heap.size := ⟨_, rfl⟩
  have lw := Lib.hid (show x < w1.heap.size by rw [hx]; exact (Array.getElem?_eq_some_iff.1 p1).1)
  rw [← hx] at p1
  obtain ⟨ka0, ka20, ka21, ka22⟩ := rq_at x q f l c p i
  have R1 := Lib.hid (hr.below b1)
  have HSZ := Lib.hid hs
  have HW := Lib.hid hw1
  have B1 := Lib.hid b1
  have P1 := Lib.hid p1
  have KA0 := Lib.hid ka0
  have KA20 := Lib.hid ka20
  have KA21 := Lib.hid ka21
  have KA22 := Lib.hid ka22
  have hS : rightB q = false := by
    unfold rightB
    rw [h2, Bool.false_and, Bool.and_false]
  have HS := Lib.hid hS
  clear hS
  have d0 : decide (q.op < 1) = false := decide_eq_false h0
  have d1 : decide (5 < q.op) = false := decide_eq_false h1
  have HK := Lib.hid (show 1 ≤ q.op ∧ q.op ≤ 5 by omega)
  have H2 := Lib.hid h2
  clear b1 p1 hw1 hr hs ka0 ka20 ka21 ka22 h2
  go_enter Try.func26, Try.ntmps26
  go_upto_region 1 with (fail)
  rw [← HW.out, ← hx]
  clear hx
  have cx := KA0.out _ P1.out
  repeat (first | ((refine wp_load_row 51 (.tmp 1) rfl x rfl 51 _ (0, 0) _ P1.out Try.underlying51 rfl size51 ?_); (try simp only [Act.put, s1, s2, s3])) | go_values | go_skip | go_guarded | go_step)
  go_wp2_with (fail)
  refine (bareq_any q f l c p i HK.out w1 R1.out).mono ?_
  rintro e w2 ⟨f', l', c', p', i', rfl, hr2, hb2⟩
  have B2 := Lib.hid (B1.out.trans (belowLe B1.out.size hb2))
  have P2 := Lib.hid ((hb2.block x (Array.getElem?_eq_some_iff.1 P1.out).1).trans P1.out)
  have R2 := Lib.hid (R1.out.below hb2)
  have HR2 := Lib.hid hr2
  clear hb2 hr2
  go_wp2_with (fail)
  refine (samerq_any (bareQ q) zeroRq f' l' c' p' i' Sl0 Sl0 Sl0 Sl0 Sl0 (bare_len q HSZ.out) w2 HR2.out (RowsR.zero _)).mono ?_
  rw [show sameRq (bareQ q) zeroRq = false from H2.out]
  rintro e w3 ⟨rfl, hb3⟩
  have B3 := Lib.hid (B2.out.trans (belowLe B2.out.size hb3))
  have P3 := Lib.hid ((hb3.block x (Array.getElem?_eq_some_iff.1 P2.out).1).trans P2.out)
  have R3 := Lib.hid (R2.out.below hb3)
  clear hb3
  dsimp only
  rename_i hK
  refine hK _ _ ?_
  clear hK
  clear cx
  go_wp2
  go_ret
  exact ⟨by rw [HS.out]; rfl, B3.out⟩
set_option maxRecDepth 100000 in
set_option maxHeartbeats 4000000 in
theorem right26_w (q : Rq) (f l c p i : Sl) (hs : q.ob.fins.length ≤ 1000000 ∧ q.ob.labels.length ≤ 1000000 ∧ q.ob.cidrs.length ≤ 1000000 ∧ q.ob.fams.length ≤ 1000000 ∧ q.ob.ips.length ≤ 1000000) (h0 : ¬ q.op < 1) (h1 : ¬ 5 < q.op) (h2 : onlyRB q = true) (h3 : wholeB q.op = true) (w : World) (hr : RowsR w q.ob f l c p i) :
    Calls Try.prog 26 #[.agg (rq q f l c p i)] w fun e w' => e = .returned (.bool (rightB q)) ∧ Below w.heap.size w w' := by
  obtain ⟨w1, hw1, b1, p1⟩ := one_rq w (rq q f l c p i)
  obtain ⟨x, hx⟩ : ∃ x, x = w.heap.size := ⟨_, rfl⟩
  have lw := Lib.hid (show x < w1.heap.size by rw [hx]; exact (Array.getElem?_eq_some_iff.1 p1).1)
  rw [← hx] at p1
  obtain ⟨ka0, ka20, ka21, ka22⟩ := rq_at x q f l c p i
  have R1 := Lib.hid (hr.below b1)
  have HSZ := Lib.hid hs
  have HW := Lib.hid hw1
  have B1 := Lib.hid b1
  have P1 := Lib.hid p1
  have KA0 := Lib.hid ka0
  have KA20 := Lib.hid ka20
  have KA21 := Lib.hid ka21
  have KA22 := Lib.hid ka22
  have hS : rightB q = CodP.shape q.ob := by unfold rightB; rw [show inR (q.op - 1) 4 = true from decide_eq_true (by omega), h2, if_pos h3, Bool.true_and, Bool.true_and]
  have HS := Lib.hid hS
  have HWH := Lib.hid h3
  have d0 : decide (q.op < 1) = false := decide_eq_false h0
  have d1 : decide (5 < q.op) = false := decide_eq_false h1
  have HK := Lib.hid (show 1 ≤ q.op ∧ q.op ≤ 5 by omega)
  have H2 := Lib.hid h2
  clear b1 p1 hw1 hr hs ka0 ka20 ka21 ka22 h2 h3 hS
  go_enter Try.func26, Try.ntmps26
  go_upto_region 1 with (fail)
  rw [← HW.out, ← hx]
  clear hx
  have cx := KA0.out _ P1.out
  repeat (first | ((refine wp_load_row 51 (.tmp 1) rfl x rfl 51 _ (0, 0) _ P1.out Try.underlying51 rfl size51 ?_); (try simp only [Act.put, s1, s2, s3])) | go_values | go_skip | go_guarded | go_step)
  go_wp2_with (fail)
  refine (bareq_any q f l c p i HK.out w1 R1.out).mono ?_
  rintro e w2 ⟨f', l', c', p', i', rfl, hr2, hb2⟩
  have B2 := Lib.hid (B1.out.trans (belowLe B1.out.size hb2))
  have P2 := Lib.hid ((hb2.block x (Array.getElem?_eq_some_iff.1 P1.out).1).trans P1.out)
  have R2 := Lib.hid (R1.out.below hb2)
  have HR2 := Lib.hid hr2
  clear hb2 hr2
  go_wp2_with (fail)
  refine (samerq_any (bareQ q) zeroRq f' l' c' p' i' Sl0 Sl0 Sl0 Sl0 Sl0 (bare_len q HSZ.out) w2 HR2.out (RowsR.zero _)).mono ?_
  rw [show sameRq (bareQ q) zeroRq = true from H2.out]
  rintro e w3 ⟨rfl, hb3⟩
  have B3 := Lib.hid (B2.out.trans (belowLe B2.out.size hb3))
  have P3 := Lib.hid ((hb3.block x (Array.getElem?_eq_some_iff.1 P2.out).1).trans P2.out)
  have R3 := Lib.hid (R2.out.below hb3)
  clear hb3
  dsimp only
  rename_i hK
  refine hK _ _ ?_
  clear hK
  clear cx
  go_upto_region 3 with (fail)
  have cx := KA0.out _ P3.out
  go_upto_region 4 with (go_at_call 55; refine (whole_any q.op true HWH.out _).mono ?_; rintro e w4 ⟨rfl, hw4⟩; have hw5 := hw4.symm; clear hw4; subst hw5)
  clear cx
  iterate 4 (first | go_values | go_skip | go_guarded | go_step)
  refine wpList_load_elem rfl (.tmp 23) rfl x 1 rfl ⟨q.ob, f, l, c, p, i⟩ (rq_mid P3.out) ?_
  go_wp2_with (fail)
  refine (shape_any q.ob f l c p i HSZ.out _ R3.out).mono ?_
  rintro e w6 ⟨rfl, hb6⟩
  go_wp2
  go_ret
  exact ⟨by rw [HS.out]; rfl, B3.out.trans (belowLe B3.out.size hb6)⟩
set_option maxRecDepth 100000 in
set_option maxHeartbeats 4000000 in
theorem right26_r0 (q : Rq) (f l c p i : Sl) (hs : q.ob.fins.length ≤ 1000000 ∧ q.ob.labels.length ≤ 1000000 ∧ q.ob.cidrs.length ≤ 1000000 ∧ q.ob.fams.length ≤ 1000000 ∧ q.ob.ips.length ≤ 1000000) (h0 : ¬ q.op < 1) (h1 : ¬ 5 < q.op) (h2 : onlyRB q = true) (h3 : wholeB q.op = false) (r0 : ¬ (1 ≤ q.kind)) (w : World) (hr : RowsR w q.ob f l c p i) :
    Calls Try.prog 26 #[.agg (rq q f l c p i)] w fun e w' => e = .returned (.bool (rightB q)) ∧ Below w.heap.size w w' := by
  obtain ⟨w1, hw1, b1, p1⟩ := one_rq w (rq q f l c p i)
  obtain ⟨x, hx⟩ : ∃ x, x = w.heap.size := ⟨_, rfl⟩
  have lw := Lib.hid (show x < w1.heap.size by rw [hx]; exact (Array.getElem?_eq_some_iff.1 p1).1)
  rw [← hx] at p1
  obtain ⟨ka0, ka20, ka21, ka22⟩ := rq_at x q f l c p i
  have R1 := Lib.hid (hr.below b1)
  have HSZ := Lib.hid hs
  have HW := Lib.hid hw1
  have B1 := Lib.hid b1
  have P1 := Lib.hid p1
  have KA0 := Lib.hid ka0
  have KA20 := Lib.hid ka20
  have KA21 := Lib.hid ka21
  have KA22 := Lib.hid ka22
  have hok : okRest q = false := by unfold okRest; rw [show inR (q.kind - 1) 3 = false from decide_eq_false (by omega), Bool.false_and]
  have hS : rightB q = false := by unfold rightB; rw [show inR (q.op - 1) 4 = true from decide_eq_true (by omega), h2, if_neg (by rw [h3]; decide), hok]; rfl
  have HS := Lib.hid hS
  have HWH := Lib.hid h3
  have d0 : decide (q.op < 1) = false := decide_eq_false h0
  have d1 : decide (5 < q.op) = false := decide_eq_false h1
  have HK := Lib.hid (show 1 ≤ q.op ∧ q.op ≤ 5 by omega)
  have e0 : decide (1 ≤ q.kind) = false := decide_eq_false (by omega)
  have H2 := Lib.hid h2
  clear b1 p1 hw1 hr hs ka0 ka20 ka21 ka22 h2 h3 hS hok
  go_enter Try.func26, Try.ntmps26
  go_upto_region 1 with (fail)
  rw [← HW.out, ← hx]
  clear hx
  have cx := KA0.out _ P1.out
  repeat (first | ((refine wp_load_row 51 (.tmp 1) rfl x rfl 51 _ (0, 0) _ P1.out Try.underlying51 rfl size51 ?_); (try simp only [Act.put, s1, s2, s3])) | go_values | go_skip | go_guarded | go_step)
  go_wp2_with (fail)
  refine (bareq_any q f l c p i HK.out w1 R1.out).mono ?_
  rintro e w2 ⟨f', l', c', p', i', rfl, hr2, hb2⟩
  have B2 := Lib.hid (B1.out.trans (belowLe B1.out.size hb2))
  have P2 := Lib.hid ((hb2.block x (Array.getElem?_eq_some_iff.1 P1.out).1).trans P1.out)
  have R2 := Lib.hid (R1.out.below hb2)
  have HR2 := Lib.hid hr2
  clear hb2 hr2
  go_wp2_with (fail)
  refine (samerq_any (bareQ q) zeroRq f' l' c' p' i' Sl0 Sl0 Sl0 Sl0 Sl0 (bare_len q HSZ.out) w2 HR2.out (RowsR.zero _)).mono ?_
  rw [show sameRq (bareQ q) zeroRq = true from H2.out]
  rintro e w3 ⟨rfl, hb3⟩
  have B3 := Lib.hid (B2.out.trans (belowLe B2.out.size hb3))
  have P3 := Lib.hid ((hb3.block x (Array.getElem?_eq_some_iff.1 P2.out).1).trans P2.out)
  have R3 := Lib.hid (R2.out.below hb3)
  clear hb3
  dsimp only
  rename_i hK
  refine hK _ _ ?_
  clear hK
  clear cx
  go_upto_region 3 with (fail)
  have cx := KA0.out _ P3.out
  have cx20 := KA20.out _ P3.out
  have cx21 := KA21.out _ P3.out
  have cx22 := KA22.out _ P3.out
  go_wp2_with (go_at_call 55; refine (whole_any q.op false HWH.out _).mono ?_; rintro e w4 ⟨rfl, hw4⟩; have hw5 := hw4.symm; clear hw4; subst hw5)
  go_ret
  exact ⟨by rw [HS.out]; rfl, B3.out⟩
set_option maxRecDepth 100000 in
set_option maxHeartbeats 4000000 in
theorem right26_r1 (q : Rq) (f l c p i : Sl) (hs : q.ob.fins.length ≤ 1000000 ∧ q.ob.labels.length ≤ 1000000 ∧ q.ob.cidrs.length ≤ 1000000 ∧ q.ob.fams.length ≤ 1000000 ∧ q.ob.ips.length ≤ 1000000) (h0 : ¬ q.op < 1) (h1 : ¬ 5 < q.op) (h2 : onlyRB q = true) (h3 : wholeB q.op = false) (r0 : 1 ≤ q.kind) (r1 : ¬ (q.kind ≤ 4)) (w : World) (hr : RowsR w q.ob f l c p i) :
    Calls Try.prog 26 #[.agg (rq q f l c p i)] w fun e w' => e = .returned (.bool (rightB q)) ∧ Below w.heap.size w w' := by
  obtain ⟨w1, hw1, b1, p1⟩ := one_rq w (rq q f l c p i)
  obtain ⟨x, hx⟩ : ∃ x, x = w.heap.size := ⟨_, rfl⟩
  have lw := Lib.hid (show x < w1.heap.size by rw [hx]; exact (Array.getElem?_eq_some_iff.1 p1).1)
  rw [← hx] at p1
  obtain ⟨ka0, ka20, ka21, ka22⟩ := rq_at x q f l c p i
  have R1 := Lib.hid (hr.below b1)
  have HSZ := Lib.hid hs
  have HW := Lib.hid hw1
  have B1 := Lib.hid b1
  have P1 := Lib.hid p1
  have KA0 := Lib.hid ka0
  have KA20 := Lib.hid ka20
  have KA21 := Lib.hid ka21
  have KA22 := Lib.hid ka22
  have hok : okRest q = false := by unfold okRest; rw [show inR (q.kind - 1) 3 = false from decide_eq_false (by omega), Bool.false_and]
  have hS : rightB q = false := by unfold rightB; rw [show inR (q.op - 1) 4 = true from decide_eq_true (by omega), h2, if_neg (by rw [h3]; decide), hok]; rfl
  have HS := Lib.hid hS
  have HWH := Lib.hid h3
  have d0 : decide (q.op < 1) = false := decide_eq_false h0
  have d1 : decide (5 < q.op) = false := decide_eq_false h1
  have HK := Lib.hid (show 1 ≤ q.op ∧ q.op ≤ 5 by omega)
  have e0 : decide (1 ≤ q.kind) = true := decide_eq_true (by omega)
  have e1 : decide (q.kind ≤ 4) = false := decide_eq_false (by omega)
  have H2 := Lib.hid h2
  clear b1 p1 hw1 hr hs ka0 ka20 ka21 ka22 h2 h3 hS hok
  go_enter Try.func26, Try.ntmps26
  go_upto_region 1 with (fail)
  rw [← HW.out, ← hx]
  clear hx
  have cx := KA0.out _ P1.out
  repeat (first | ((refine wp_load_row 51 (.tmp 1) rfl x rfl 51 _ (0, 0) _ P1.out Try.underlying51 rfl size51 ?_); (try simp only [Act.put, s1, s2, s3])) | go_values | go_skip | go_guarded | go_step)
  go_wp2_with (fail)
  refine (bareq_any q f l c p i HK.out w1 R1.out).mono ?_
  rintro e w2 ⟨f', l', c', p', i', rfl, hr2, hb2⟩
  have B2 := Lib.hid (B1.out.trans (belowLe B1.out.size hb2))
  have P2 := Lib.hid ((hb2.block x (Array.getElem?_eq_some_iff.1 P1.out).1).trans P1.out)
  have R2 := Lib.hid (R1.out.below hb2)
  have HR2 := Lib.hid hr2
  clear hb2 hr2
  go_wp2_with (fail)
  refine (samerq_any (bareQ q) zeroRq f' l' c' p' i' Sl0 Sl0 Sl0 Sl0 Sl0 (bare_len q HSZ.out) w2 HR2.out (RowsR.zero _)).mono ?_
  rw [show sameRq (bareQ q) zeroRq = true from H2.out]
  rintro e w3 ⟨rfl, hb3⟩
  have B3 := Lib.hid (B2.out.trans (belowLe B2.out.size hb3))
  have P3 := Lib.hid ((hb3.block x (Array.getElem?_eq_some_iff.1 P2.out).1).trans P2.out)
  have R3 := Lib.hid (R2.out.below hb3)
  clear hb3
  dsimp only
  rename_i hK
  refine hK _ _ ?_
  clear hK
  clear cx
  go_upto_region 3 with (fail)
  have cx := KA0.out _ P3.out
  have cx20 := KA20.out _ P3.out
  have cx21 := KA21.out _ P3.out
  have cx22 := KA22.out _ P3.out
  go_wp2_with (go_at_call 55; refine (whole_any q.op false HWH.out _).mono ?_; rintro e w4 ⟨rfl, hw4⟩; have hw5 := hw4.symm; clear hw4; subst hw5)
  go_ret
  exact ⟨by rw [HS.out]; rfl, B3.out⟩
set_option maxRecDepth 100000 in
set_option maxHeartbeats 4000000 in
theorem right26_r2 (q : Rq) (f l c p i : Sl) (hs : q.ob.fins.length ≤ 1000000 ∧ q.ob.labels.length ≤ 1000000 ∧ q.ob.cidrs.length ≤ 1000000 ∧ q.ob.fams.length ≤ 1000000 ∧ q.ob.ips.length ≤ 1000000) (h0 : ¬ q.op < 1) (h1 : ¬ 5 < q.op) (h2 : onlyRB q = true) (h3 : wholeB q.op = false) (r0 : 1 ≤ q.kind) (r1 : q.kind ≤ 4) (r2 : ¬ (q.name.size ≤ 200)) (w : World) (hr : RowsR w q.ob f l c p i) :
    Calls Try.prog 26 #[.agg (rq q f l c p i)] w fun e w' => e = .returned (.bool (rightB q)) ∧ Below w.heap.size w w' := by
  obtain ⟨w1, hw1, b1, p1⟩ := one_rq w (rq q f l c p i)
  obtain ⟨x, hx⟩ : ∃ x, x = w.heap.size := ⟨_, rfl⟩
  have lw := Lib.hid (show x < w1.heap.size by rw [hx]; exact (Array.getElem?_eq_some_iff.1 p1).1)
  rw [← hx] at p1
  obtain ⟨ka0, ka20, ka21, ka22⟩ := rq_at x q f l c p i
  have R1 := Lib.hid (hr.below b1)
  have HSZ := Lib.hid hs
  have HW := Lib.hid hw1
  have B1 := Lib.hid b1
  have P1 := Lib.hid p1
  have KA0 := Lib.hid ka0
  have KA20 := Lib.hid ka20
  have KA21 := Lib.hid ka21
  have KA22 := Lib.hid ka22
  have hok : okRest q = false := by unfold okRest; rw [show decide (q.name.size ≤ 200) = false from decide_eq_false (by omega), Bool.false_and, Bool.and_false]
  have hS : rightB q = false := by unfold rightB; rw [show inR (q.op - 1) 4 = true from decide_eq_true (by omega), h2, if_neg (by rw [h3]; decide), hok]; rfl
  have HS := Lib.hid hS
  have HWH := Lib.hid h3
  have d0 : decide (q.op < 1) = false := decide_eq_false h0
  have d1 : decide (5 < q.op) = false := decide_eq_false h1
  have HK := Lib.hid (show 1 ≤ q.op ∧ q.op ≤ 5 by omega)
  have e0 : decide (1 ≤ q.kind) = true := decide_eq_true (by omega)
  have e1 : decide (q.kind ≤ 4) = true := decide_eq_true (by omega)
  have e2 : decide ((q.name.size : Int) ≤ 200) = false := decide_eq_false (by omega)
  have H2 := Lib.hid h2
  clear b1 p1 hw1 hr hs ka0 ka20 ka21 ka22 h2 h3 hS hok
  go_enter Try.func26, Try.ntmps26
  go_upto_region 1 with (fail)
  rw [← HW.out, ← hx]
  clear hx
  have cx := KA0.out _ P1.out
  repeat (first | ((refine wp_load_row 51 (.tmp 1) rfl x rfl 51 _ (0, 0) _ P1.out Try.underlying51 rfl size51 ?_); (try simp only [Act.put, s1, s2, s3])) | go_values | go_skip | go_guarded | go_step)
  go_wp2_with (fail)
  refine (bareq_any q f l c p i HK.out w1 R1.out).mono ?_
  rintro e w2 ⟨f', l', c', p', i', rfl, hr2, hb2⟩
  have B2 := Lib.hid (B1.out.trans (belowLe B1.out.size hb2))
  have P2 := Lib.hid ((hb2.block x (Array.getElem?_eq_some_iff.1 P1.out).1).trans P1.out)
  have R2 := Lib.hid (R1.out.below hb2)
  have HR2 := Lib.hid hr2
  clear hb2 hr2
  go_wp2_with (fail)
  refine (samerq_any (bareQ q) zeroRq f' l' c' p' i' Sl0 Sl0 Sl0 Sl0 Sl0 (bare_len q HSZ.out) w2 HR2.out (RowsR.zero _)).mono ?_
  rw [show sameRq (bareQ q) zeroRq = true from H2.out]
  rintro e w3 ⟨rfl, hb3⟩
  have B3 := Lib.hid (B2.out.trans (belowLe B2.out.size hb3))
  have P3 := Lib.hid ((hb3.block x (Array.getElem?_eq_some_iff.1 P2.out).1).trans P2.out)
  have R3 := Lib.hid (R2.out.below hb3)
  clear hb3
  dsimp only
  rename_i hK
  refine hK _ _ ?_
  clear hK
  clear cx
  go_upto_region 3 with (fail)
  have cx := KA0.out _ P3.out
  have cx20 := KA20.out _ P3.out
  have cx21 := KA21.out _ P3.out
  have cx22 := KA22.out _ P3.out
  go_wp2_with (go_at_call 55; refine (whole_any q.op false HWH.out _).mono ?_; rintro e w4 ⟨rfl, hw4⟩; have hw5 := hw4.symm; clear hw4; subst hw5)
  go_ret
  exact ⟨by rw [HS.out]; rfl, B3.out⟩
set_option maxRecDepth 100000 in
set_option maxHeartbeats 4000000 in
theorem right26_r3 (q : Rq) (f l c p i : Sl) (hs : q.ob.fins.length ≤ 1000000 ∧ q.ob.labels.length ≤ 1000000 ∧ q.ob.cidrs.length ≤ 1000000 ∧ q.ob.fams.length ≤ 1000000 ∧ q.ob.ips.length ≤ 1000000) (h0 : ¬ q.op < 1) (h1 : ¬ 5 < q.op) (h2 : onlyRB q = true) (h3 : wholeB q.op = false) (r0 : 1 ≤ q.kind) (r1 : q.kind ≤ 4) (r2 : q.name.size ≤ 200) (r3 : ¬ (0 ≤ q.version)) (w : World) (hr : RowsR w q.ob f l c p i) :
    Calls Try.prog 26 #[.agg (rq q f l c p i)] w fun e w' => e = .returned (.bool (rightB q)) ∧ Below w.heap.size w w' := by
  obtain ⟨w1, hw1, b1, p1⟩ := one_rq w (rq q f l c p i)
  obtain ⟨x, hx⟩ : ∃ x, x = w.heap.size := ⟨_, rfl⟩
  have lw := Lib.hid (show x < w1.heap.size by rw [hx]; exact (Array.getElem?_eq_some_iff.1 p1).1)
  rw [← hx] at p1
  obtain ⟨ka0, ka20, ka21, ka22⟩ := rq_at x q f l c p i
  have R1 := Lib.hid (hr.below b1)
  have HSZ := Lib.hid hs
  have HW := Lib.hid hw1
  have B1 := Lib.hid b1
  have P1 := Lib.hid p1
  have KA0 := Lib.hid ka0
  have KA20 := Lib.hid ka20
  have KA21 := Lib.hid ka21
  have KA22 := Lib.hid ka22
  have hok : okRest q = false := by unfold okRest; rw [show inR q.version 1099511627776 = false from decide_eq_false (by omega), Bool.and_false, Bool.and_false]
  have hS : rightB q = false := by unfold rightB; rw [show inR (q.op - 1) 4 = true from decide_eq_true (by omega), h2, if_neg (by rw [h3]; decide), hok]; rfl
  have HS := Lib.hid hS
  have HWH := Lib.hid h3
  have d0 : decide (q.op < 1) = false := decide_eq_false h0
  have d1 : decide (5 < q.op) = false := decide_eq_false h1
  have HK := Lib.hid (show 1 ≤ q.op ∧ q.op ≤ 5 by omega)
  have e0 : decide (1 ≤ q.kind) = true := decide_eq_true (by omega)
  have e1 : decide (q.kind ≤ 4) = true := decide_eq_true (by omega)
  have e2 : decide ((q.name.size : Int) ≤ 200) = true := decide_eq_true (by omega)
  have e3 : decide (0 ≤ q.version) = false := decide_eq_false (by omega)
  have H2 := Lib.hid h2
  clear b1 p1 hw1 hr hs ka0 ka20 ka21 ka22 h2 h3 hS hok
  go_enter Try.func26, Try.ntmps26
  go_upto_region 1 with (fail)
  rw [← HW.out, ← hx]
  clear hx
  have cx := KA0.out _ P1.out
  repeat (first | ((refine wp_load_row 51 (.tmp 1) rfl x rfl 51 _ (0, 0) _ P1.out Try.underlying51 rfl size51 ?_); (try simp only [Act.put, s1, s2, s3])) | go_values | go_skip | go_guarded | go_step)
  go_wp2_with (fail)
  refine (bareq_any q f l c p i HK.out w1 R1.out).mono ?_
  rintro e w2 ⟨f', l', c', p', i', rfl, hr2, hb2⟩
  have B2 := Lib.hid (B1.out.trans (belowLe B1.out.size hb2))
  have P2 := Lib.hid ((hb2.block x (Array.getElem?_eq_some_iff.1 P1.out).1).trans P1.out)
  have R2 := Lib.hid (R1.out.below hb2)
  have HR2 := Lib.hid hr2
  clear hb2 hr2
  go_wp2_with (fail)
  refine (samerq_any (bareQ q) zeroRq f' l' c' p' i' Sl0 Sl0 Sl0 Sl0 Sl0 (bare_len q HSZ.out) w2 HR2.out (RowsR.zero _)).mono ?_
  rw [show sameRq (bareQ q) zeroRq = true from H2.out]
  rintro e w3 ⟨rfl, hb3⟩
  have B3 := Lib.hid (B2.out.trans (belowLe B2.out.size hb3))
  have P3 := Lib.hid ((hb3.block x (Array.getElem?_eq_some_iff.1 P2.out).1).trans P2.out)
  have R3 := Lib.hid (R2.out.below hb3)
  clear hb3
  dsimp only
  rename_i hK
  refine hK _ _ ?_
  clear hK
  clear cx
  go_upto_region 3 with (fail)
  have cx := KA0.out _ P3.out
  have cx20 := KA20.out _ P3.out
  have cx21 := KA21.out _ P3.out
  have cx22 := KA22.out _ P3.out
  go_wp2_with (go_at_call 55; refine (whole_any q.op false HWH.out _).mono ?_; rintro e w4 ⟨rfl, hw4⟩; have hw5 := hw4.symm; clear hw4; subst hw5)
  go_ret
  exact ⟨by rw [HS.out]; rfl, B3.out⟩
set_option maxRecDepth 100000 in
set_option maxHeartbeats 4000000 in
theorem right26_r4 (q : Rq) (f l c p i : Sl) (hs : q.ob.fins.length ≤ 1000000 ∧ q.ob.labels.length ≤ 1000000 ∧ q.ob.cidrs.length ≤ 1000000 ∧ q.ob.fams.length ≤ 1000000 ∧ q.ob.ips.length ≤ 1000000) (h0 : ¬ q.op < 1) (h1 : ¬ 5 < q.op) (h2 : onlyRB q = true) (h3 : wholeB q.op = false) (r0 : 1 ≤ q.kind) (r1 : q.kind ≤ 4) (r2 : q.name.size ≤ 200) (r3 : 0 ≤ q.version) (r4 : ¬ (q.version ≤ 1099511627776)) (w : World) (hr : RowsR w q.ob f l c p i) :
    Calls Try.prog 26 #[.agg (rq q f l c p i)] w fun e w' => e = .returned (.bool (rightB q)) ∧ Below w.heap.size w w' := by
  obtain ⟨w1, hw1, b1, p1⟩ := one_rq w (rq q f l c p i)
  obtain ⟨x, hx⟩ : ∃ x, x = w.heap.size := ⟨_, rfl⟩
  have lw := Lib.hid (show x < w1.heap.size by rw [hx]; exact (Array.getElem?_eq_some_iff.1 p1).1)
  rw [← hx] at p1
  obtain ⟨ka0, ka20, ka21, ka22⟩ := rq_at x q f l c p i
  have R1 := Lib.hid (hr.below b1)
  have HSZ := Lib.hid hs
  have HW := Lib.hid hw1
  have B1 := Lib.hid b1
  have P1 := Lib.hid p1
  have KA0 := Lib.hid ka0
  have KA20 := Lib.hid ka20
  have KA21 := Lib.hid ka21
  have KA22 := Lib.hid ka22
  have hok : okRest q = false := by unfold okRest; rw [show inR q.version 1099511627776 = false from decide_eq_false (by omega), Bool.and_false, Bool.and_false]
  have hS : rightB q = false := by unfold rightB; rw [show inR (q.op - 1) 4 = true from decide_eq_true (by omega), h2, if_neg (by rw [h3]; decide), hok]; rfl
  have HS := Lib.hid hS
  have HWH := Lib.hid h3
  have d0 : decide (q.op < 1) = false := decide_eq_false h0
  have d1 : decide (5 < q.op) = false := decide_eq_false h1
  have HK := Lib.hid (show 1 ≤ q.op ∧ q.op ≤ 5 by omega)
  have e0 : decide (1 ≤ q.kind) = true := decide_eq_true (by omega)
  have e1 : decide (q.kind ≤ 4) = true := decide_eq_true (by omega)
  have e2 : decide ((q.name.size : Int) ≤ 200) = true := decide_eq_true (by omega)
  have e3 : decide (0 ≤ q.version) = true := decide_eq_true (by omega)
  have e4 : decide (q.version ≤ 1099511627776) = false := decide_eq_false (by omega)
  have H2 := Lib.hid h2
  clear b1 p1 hw1 hr hs ka0 ka20 ka21 ka22 h2 h3 hS hok
  go_enter Try.func26, Try.ntmps26
  go_upto_region 1 with (fail)
  rw [← HW.out, ← hx]
  clear hx
  have cx := KA0.out _ P1.out
  repeat (first | ((refine wp_load_row 51 (.tmp 1) rfl x rfl 51 _ (0, 0) _ P1.out Try.underlying51 rfl size51 ?_); (try simp only [Act.put, s1, s2, s3])) | go_values | go_skip | go_guarded | go_step)
  go_wp2_with (fail)
  refine (bareq_any q f l c p i HK.out w1 R1.out).mono ?_
  rintro e w2 ⟨f', l', c', p', i', rfl, hr2, hb2⟩
  have B2 := Lib.hid (B1.out.trans (belowLe B1.out.size hb2))
  have P2 := Lib.hid ((hb2.block x (Array.getElem?_eq_some_iff.1 P1.out).1).trans P1.out)
  have R2 := Lib.hid (R1.out.below hb2)
  have HR2 := Lib.hid hr2
  clear hb2 hr2
  go_wp2_with (fail)
  refine (samerq_any (bareQ q) zeroRq f' l' c' p' i' Sl0 Sl0 Sl0 Sl0 Sl0 (bare_len q HSZ.out) w2 HR2.out (RowsR.zero _)).mono ?_
  rw [show sameRq (bareQ q) zeroRq = true from H2.out]
  rintro e w3 ⟨rfl, hb3⟩
  have B3 := Lib.hid (B2.out.trans (belowLe B2.out.size hb3))
  have P3 := Lib.hid ((hb3.block x (Array.getElem?_eq_some_iff.1 P2.out).1).trans P2.out)
  have R3 := Lib.hid (R2.out.below hb3)
  clear hb3
  dsimp only
  rename_i hK
  refine hK _ _ ?_
  clear hK
  clear cx
  go_upto_region 3 with (fail)
  have cx := KA0.out _ P3.out
  have cx20 := KA20.out _ P3.out
  have cx21 := KA21.out _ P3.out
  have cx22 := KA22.out _ P3.out
  go_wp2_with (go_at_call 55; refine (whole_any q.op false HWH.out _).mono ?_; rintro e w4 ⟨rfl, hw4⟩; have hw5 := hw4.symm; clear hw4; subst hw5)
  go_ret
  exact ⟨by rw [HS.out]; rfl, B3.out⟩
set_option maxRecDepth 100000 in
set_option maxHeartbeats 4000000 in
theorem right26_r5 (q : Rq) (f l c p i : Sl) (hs : q.ob.fins.length ≤ 1000000 ∧ q.ob.labels.length ≤ 1000000 ∧ q.ob.cidrs.length ≤ 1000000 ∧ q.ob.fams.length ≤ 1000000 ∧ q.ob.ips.length ≤ 1000000) (h0 : ¬ q.op < 1) (h1 : ¬ 5 < q.op) (h2 : onlyRB q = true) (h3 : wholeB q.op = false) (r0 : 1 ≤ q.kind) (r1 : q.kind ≤ 4) (r2 : q.name.size ≤ 200) (r3 : 0 ≤ q.version) (r4 : q.version ≤ 1099511627776) (w : World) (hr : RowsR w q.ob f l c p i) :
    Calls Try.prog 26 #[.agg (rq q f l c p i)] w fun e w' => e = .returned (.bool (rightB q)) ∧ Below w.heap.size w w' := by
  obtain ⟨w1, hw1, b1, p1⟩ := one_rq w (rq q f l c p i)
  obtain ⟨x, hx⟩ : ∃ x, x = w.heap.size := ⟨_, rfl⟩
  have lw := Lib.hid (show x < w1.heap.size by rw [hx]; exact (Array.getElem?_eq_some_iff.1 p1).1)
  rw [← hx] at p1
  obtain ⟨ka0, ka20, ka21, ka22⟩ := rq_at x q f l c p i
  have R1 := Lib.hid (hr.below b1)
  have HSZ := Lib.hid hs
  have HW := Lib.hid hw1
  have B1 := Lib.hid b1
  have P1 := Lib.hid p1
  have KA0 := Lib.hid ka0
  have KA20 := Lib.hid ka20
  have KA21 := Lib.hid ka21
  have KA22 := Lib.hid ka22
  have hok : okRest q = true := by unfold okRest; rw [show inR (q.kind - 1) 3 = true from decide_eq_true (by omega), show decide (q.name.size ≤ 200) = true from decide_eq_true (by omega), show inR q.version 1099511627776 = true from decide_eq_true (by omega)]; rfl
  have hS : rightB q = true := by unfold rightB; rw [show inR (q.op - 1) 4 = true from decide_eq_true (by omega), h2, if_neg (by rw [h3]; decide), hok]; rfl
  have HS := Lib.hid hS
  have HWH := Lib.hid h3
  have d0 : decide (q.op < 1) = false := decide_eq_false h0
  have d1 : decide (5 < q.op) = false := decide_eq_false h1
  have HK := Lib.hid (show 1 ≤ q.op ∧ q.op ≤ 5 by omega)
  have e0 : decide (1 ≤ q.kind) = true := decide_eq_true (by omega)
  have e1 : decide (q.kind ≤ 4) = true := decide_eq_true (by omega)
  have e2 : decide ((q.name.size : Int) ≤ 200) = true := decide_eq_true (by omega)
  have e3 : decide (0 ≤ q.version) = true := decide_eq_true (by omega)
  have e4 : decide (q.version ≤ 1099511627776) = true := decide_eq_true (by omega)
  have H2 := Lib.hid h2
  clear b1 p1 hw1 hr hs ka0 ka20 ka21 ka22 h2 h3 hS hok
  go_enter Try.func26, Try.ntmps26
  go_upto_region 1 with (fail)
  rw [← HW.out, ← hx]
  clear hx
  have cx := KA0.out _ P1.out
  repeat (first | ((refine wp_load_row 51 (.tmp 1) rfl x rfl 51 _ (0, 0) _ P1.out Try.underlying51 rfl size51 ?_); (try simp only [Act.put, s1, s2, s3])) | go_values | go_skip | go_guarded | go_step)
  go_wp2_with (fail)
  refine (bareq_any q f l c p i HK.out w1 R1.out).mono ?_
  rintro e w2 ⟨f', l', c', p', i', rfl, hr2, hb2⟩
  have B2 := Lib.hid (B1.out.trans (belowLe B1.out.size hb2))
  have P2 := Lib.hid ((hb2.block x (Array.getElem?_eq_some_iff.1 P1.out).1).trans P1.out)
  have R2 := Lib.hid (R1.out.below hb2)
  have HR2 := Lib.hid hr2
  clear hb2 hr2
  go_wp2_with (fail)
  refine (samerq_any (bareQ q) zeroRq f' l' c' p' i' Sl0 Sl0 Sl0 Sl0 Sl0 (bare_len q HSZ.out) w2 HR2.out (RowsR.zero _)).mono ?_
  rw [show sameRq (bareQ q) zeroRq = true from H2.out]
  rintro e w3 ⟨rfl, hb3⟩
  have B3 := Lib.hid (B2.out.trans (belowLe B2.out.size hb3))
  have P3 := Lib.hid ((hb3.block x (Array.getElem?_eq_some_iff.1 P2.out).1).trans P2.out)
  have R3 := Lib.hid (R2.out.below hb3)
  clear hb3
  dsimp only
  rename_i hK
  refine hK _ _ ?_
  clear hK
  clear cx
  go_upto_region 3 with (fail)
  have cx := KA0.out _ P3.out
  have cx20 := KA20.out _ P3.out
  have cx21 := KA21.out _ P3.out
  have cx22 := KA22.out _ P3.out
  go_wp2_with (go_at_call 55; refine (whole_any q.op false HWH.out _).mono ?_; rintro e w4 ⟨rfl, hw4⟩; have hw5 := hw4.symm; clear hw4; subst hw5)
  go_ret
  exact ⟨by rw [HS.out]; rfl, B3.out⟩
theorem right26_any (q : Rq) (f l c p i : Sl) (hs : q.ob.fins.length ≤ 1000000 ∧ q.ob.labels.length ≤ 1000000 ∧ q.ob.cidrs.length ≤ 1000000 ∧ q.ob.fams.length ≤ 1000000 ∧ q.ob.ips.length ≤ 1000000) (w : World) (hr : RowsR w q.ob f l c p i) :
    Calls Try.prog 26 #[.agg (rq q f l c p i)] w fun e w' => e = .returned (.bool (rightB q)) ∧ Below w.heap.size w w' := by
  by_cases h0 : q.op < 1
  · exact right26_0 q f l c p i hs h0 w hr
  by_cases h1 : 5 < q.op
  · exact right26_1 q f l c p i hs h0 h1 w hr
  cases h2 : onlyRB q
  · exact right26_2 q f l c p i hs h0 h1 h2 w hr
  cases h3 : wholeB q.op
  rotate_left
  · exact right26_w q f l c p i hs h0 h1 h2 h3 w hr
  by_cases r0 : 1 ≤ q.kind
  rotate_left
  · exact right26_r0 q f l c p i hs h0 h1 h2 h3 r0 w hr
  by_cases r1 : q.kind ≤ 4
  rotate_left
  · exact right26_r1 q f l c p i hs h0 h1 h2 h3 r0 r1 w hr
  by_cases r2 : q.name.size ≤ 200
  rotate_left
  · exact right26_r2 q f l c p i hs h0 h1 h2 h3 r0 r1 r2 w hr
  by_cases r3 : 0 ≤ q.version
  rotate_left
  · exact right26_r3 q f l c p i hs h0 h1 h2 h3 r0 r1 r2 r3 w hr
  by_cases r4 : q.version ≤ 1099511627776
  rotate_left
  · exact right26_r4 q f l c p i hs h0 h1 h2 h3 r0 r1 r2 r3 r4 w hr
  exact right26_r5 q f l c p i hs h0 h1 h2 h3 r0 r1 r2 r3 r4 w hr
set_option maxRecDepth 100000 in
set_option maxHeartbeats 4000000 in
theorem right27_0 (q : Rq) (f l c p i : Sl) (hs : q.ob.fins.length ≤ 1000000 ∧ q.ob.labels.length ≤ 1000000 ∧ q.ob.cidrs.length ≤ 1000000 ∧ q.ob.fams.length ≤ 1000000 ∧ q.ob.ips.length ≤ 1000000) (h0 : q.op < 1) (w : World) (hr : RowsR w q.ob f l c p i) :
    Calls Try.prog 27 #[.agg (rq q f l c p i)] w fun e w' => e = .returned (.bool (rightB q)) ∧ Below w.heap.size w w' := by
  obtain ⟨w1, hw1, b1, p1⟩ := one_rq w (rq q f l c p i)
  obtain ⟨x, hx⟩ : ∃ x, x = w.heap.size := ⟨_, rfl⟩
  have lw := Lib.hid (show x < w1.heap.size by rw [hx]; exact (Array.getElem?_eq_some_iff.1 p1).1)
  rw [← hx] at p1
  obtain ⟨ka0, ka20, ka21, ka22⟩ := rq_at x q f l c p i
  have R1 := Lib.hid (hr.below b1)
  have HSZ := Lib.hid hs
  have HW := Lib.hid hw1
  have B1 := Lib.hid b1
  have P1 := Lib.hid p1
  have KA0 := Lib.hid ka0
  have KA20 := Lib.hid ka20
  have KA21 := Lib.hid ka21
  have KA22 := Lib.hid ka22
  have hS : rightB q = false := by
    unfold rightB
    rw [show inR (q.op - 1) 4 = false from decide_eq_false (by omega), Bool.false_and]
  have HS := Lib.hid hS
  clear hS
  have d0 : decide (q.op < 1) = true := decide_eq_true h0
  clear b1 p1 hw1 hr hs ka0 ka20 ka21 ka22
  go_enter Try.func27, Try.ntmps27
  go_upto_region 1 with (fail)
  rw [← HW.out, ← hx]
  clear hx
  refine wp_region_held_drew (S := fun V => V.heap[x]? = some (.cells (rq q f l c p i) 51 (0, 0)) ∧ Below w1.heap.size w1 V) (by kernel_rfl) ⟨P1.out, ⟨rfl, rfl, rfl, Nat.le_refl _, fun _ _ => rfl⟩⟩ (fun hS0 => ?_)
  refine tk 0 3 (.pointer (some ⟨x, 0, none⟩)) ?_; (try simp only [s1, s2, s3]); refine tk 1 4 (.int .i64 q.op) ?_ (hv := by (intro V hV; have hc := KA0.out V hV.1; clear hV; go_simp; try rfl)); (try simp only [s1, s2, s3]); refine tk 2 5 (.bool true) ?_; (try simp only [s1, s2, s3]); refine tk 3 6 (.bool true) ?_; (try simp only [s1, s2, s3]); refine ts 4 7 ?_; (try simp only [s1, s2, s3]); refine ts 5 8 ?_; (try simp only [s1, s2, s3]); refine ts 6 9 ?_; (try simp only [s1, s2, s3]); refine tk 7 10 (.bool true) ?_; (try simp only [s1, s2, s3]); refine tk 8 11 (.bool true) ?_; (try simp only [s1, s2, s3]); refine ts 9 12 ?_; (try simp only [s1, s2, s3]); refine ts 10 13 ?_; (try simp only [s1, s2, s3]); refine ts 11 14 ?_; (try simp only [s1, s2, s3]); refine ts 12 15 ?_; (try simp only [s1, s2, s3]); refine ts 13 16 ?_; (try simp only [s1, s2, s3]); refine tk 14 17 (.bool true) ?_; (try simp only [s1, s2, s3])
  refine wpAnyH_done (by kernel_rfl) ?_ _
  have HE := Lib.hid hS0
  go_wp2
  go_ret
  exact ⟨by rw [HS.out]; rfl, B1.out.trans (belowLe B1.out.size HE.out.2)⟩
set_option maxRecDepth 100000 in
set_option maxHeartbeats 4000000 in
theorem right27_1 (q : Rq) (f l c p i : Sl) (hs : q.ob.fins.length ≤ 1000000 ∧ q.ob.labels.length ≤ 1000000 ∧ q.ob.cidrs.length ≤ 1000000 ∧ q.ob.fams.length ≤ 1000000 ∧ q.ob.ips.length ≤ 1000000) (h0 : ¬ q.op < 1) (h1 : 5 < q.op) (w : World) (hr : RowsR w q.ob f l c p i) :
    Calls Try.prog 27 #[.agg (rq q f l c p i)] w fun e w' => e = .returned (.bool (rightB q)) ∧ Below w.heap.size w w' := by
  obtain ⟨w1, hw1, b1, p1⟩ := one_rq w (rq q f l c p i)
  obtain ⟨x, hx⟩ : ∃ x, x = w.heap.size := ⟨_, rfl⟩
  have lw := Lib.hid (show x < w1.heap.size by rw [hx]; exact (Array.getElem?_eq_some_iff.1 p1).1)
  rw [← hx] at p1
  obtain ⟨ka0, ka20, ka21, ka22⟩ := rq_at x q f l c p i
  have R1 := Lib.hid (hr.below b1)
  have HSZ := Lib.hid hs
  have HW := Lib.hid hw1
  have B1 := Lib.hid b1
  have P1 := Lib.hid p1
  have KA0 := Lib.hid ka0
  have KA20 := Lib.hid ka20
  have KA21 := Lib.hid ka21
  have KA22 := Lib.hid ka22
  have hS : rightB q = false := by
    unfold rightB
    rw [show inR (q.op - 1) 4 = false from decide_eq_false (by omega), Bool.false_and]
  have HS := Lib.hid hS
  clear hS
  have d0 : decide (q.op < 1) = false := decide_eq_false h0
  have d1 : decide (5 < q.op) = true := decide_eq_true h1
  clear b1 p1 hw1 hr hs ka0 ka20 ka21 ka22
  go_enter Try.func27, Try.ntmps27
  go_upto_region 1 with (fail)
  rw [← HW.out, ← hx]
  clear hx
  refine wp_region_held_drew (S := fun V => V.heap[x]? = some (.cells (rq q f l c p i) 51 (0, 0)) ∧ Below w1.heap.size w1 V) (by kernel_rfl) ⟨P1.out, ⟨rfl, rfl, rfl, Nat.le_refl _, fun _ _ => rfl⟩⟩ (fun hS0 => ?_)
  refine tk 0 3 (.pointer (some ⟨x, 0, none⟩)) ?_; (try simp only [s1, s2, s3]); refine tk 1 4 (.int .i64 q.op) ?_ (hv := by (intro V hV; have hc := KA0.out V hV.1; clear hV; go_simp; try rfl)); (try simp only [s1, s2, s3]); refine tk 2 5 (.bool false) ?_; (try simp only [s1, s2, s3]); refine tk 3 6 (.bool false) ?_; (try simp only [s1, s2, s3]); refine tk 4 7 (.pointer (some ⟨x, 0, none⟩)) ?_; (try simp only [s1, s2, s3]); refine tk 5 8 (.int .i64 q.op) ?_ (hv := by (intro V hV; have hc := KA0.out V hV.1; clear hV; go_simp; try rfl)); (try simp only [s1, s2, s3]); refine tk 6 9 (.bool true) ?_; (try simp only [s1, s2, s3]); refine tk 7 10 (.bool true) ?_; (try simp only [s1, s2, s3]); refine tk 8 11 (.bool true) ?_; (try simp only [s1, s2, s3]); refine ts 9 12 ?_; (try simp only [s1, s2, s3]); refine ts 10 13 ?_; (try simp only [s1, s2, s3]); refine ts 11 14 ?_; (try simp only [s1, s2, s3]); refine ts 12 15 ?_; (try simp only [s1, s2, s3]); refine ts 13 16 ?_; (try simp only [s1, s2, s3]); refine tk 14 17 (.bool true) ?_; (try simp only [s1, s2, s3])
  refine wpAnyH_done (by kernel_rfl) ?_ _
  have HE := Lib.hid hS0
  go_wp2
  go_ret
  exact ⟨by rw [HS.out]; rfl, B1.out.trans (belowLe B1.out.size HE.out.2)⟩
set_option maxRecDepth 100000 in
set_option maxHeartbeats 4000000 in
theorem right27_2 (q : Rq) (f l c p i : Sl) (hs : q.ob.fins.length ≤ 1000000 ∧ q.ob.labels.length ≤ 1000000 ∧ q.ob.cidrs.length ≤ 1000000 ∧ q.ob.fams.length ≤ 1000000 ∧ q.ob.ips.length ≤ 1000000) (h0 : ¬ q.op < 1) (h1 : ¬ 5 < q.op) (h2 : onlyRB q = false) (w : World) (hr : RowsR w q.ob f l c p i) :
    Calls Try.prog 27 #[.agg (rq q f l c p i)] w fun e w' => e = .returned (.bool (rightB q)) ∧ Below w.heap.size w w' := by
  obtain ⟨w1, hw1, b1, p1⟩ := one_rq w (rq q f l c p i)
  obtain ⟨x, hx⟩ : ∃ x, x = w.heap.size := ⟨_, rfl⟩
  have lw := Lib.hid (show x < w1.heap.size by rw [hx]; exact (Array.getElem?_eq_some_iff.1 p1).1)
  rw [← hx] at p1
  obtain ⟨ka0, ka20, ka21, ka22⟩ := rq_at x q f l c p i
  have R1 := Lib.hid (hr.below b1)
  have HSZ := Lib.hid hs
  have HW := Lib.hid hw1
  have B1 := Lib.hid b1
  have P1 := Lib.hid p1
  have KA0 := Lib.hid ka0
  have KA20 := Lib.hid ka20
  have KA21 := Lib.hid ka21
  have KA22 := Lib.hid ka22
  have hS : rightB q = false := by
    unfold rightB
    rw [h2, Bool.false_and, Bool.and_false]
  have HS := Lib.hid hS
  clear hS
  have d0 : decide (q.op < 1) = false := decide_eq_false h0
  have d1 : decide (5 < q.op) = false := decide_eq_false h1
  have HK := Lib.hid (show 1 ≤ q.op ∧ q.op ≤ 5 by omega)
  have H2 := Lib.hid h2
  clear b1 p1 hw1 hr hs ka0 ka20 ka21 ka22 h2
  go_enter Try.func27, Try.ntmps27
  go_upto_region 1 with (fail)
  rw [← HW.out, ← hx]
  clear hx
  refine wp_region_held_drew (S := fun V => V.heap[x]? = some (.cells (rq q f l c p i) 51 (0, 0)) ∧ Below w1.heap.size w1 V) (by kernel_rfl) ⟨P1.out, ⟨rfl, rfl, rfl, Nat.le_refl _, fun _ _ => rfl⟩⟩ (fun hS0 => ?_)
  refine tk 0 3 (.pointer (some ⟨x, 0, none⟩)) ?_; (try simp only [s1, s2, s3]); refine tk 1 4 (.int .i64 q.op) ?_ (hv := by (intro V hV; have hc := KA0.out V hV.1; clear hV; go_simp; try rfl)); (try simp only [s1, s2, s3]); refine tk 2 5 (.bool false) ?_; (try simp only [s1, s2, s3]); refine tk 3 6 (.bool false) ?_; (try simp only [s1, s2, s3]); refine tk 4 7 (.pointer (some ⟨x, 0, none⟩)) ?_; (try simp only [s1, s2, s3]); refine tk 5 8 (.int .i64 q.op) ?_ (hv := by (intro V hV; have hc := KA0.out V hV.1; clear hV; go_simp; try rfl)); (try simp only [s1, s2, s3]); refine tk 6 9 (.bool false) ?_; (try simp only [s1, s2, s3]); refine tk 7 10 (.bool false) ?_; (try simp only [s1, s2, s3]); refine tk 8 11 (.bool false) ?_; (try simp only [s1, s2, s3]); refine tk 9 12 (.agg (rq q f l c p i)) ?_ (hv := by exact load_row_yields 51 (.tmp 1) rfl x rfl 51 (rq q f l c p i) (0, 0) _ (fun V hV => hV.1) Try.underlying51 rfl size51); (try simp only [s1, s2, s3]); refine tk 10 13 (.agg (rq q f l c p i)) ?_ (hv := by exact load_row_yields 51 (.tmp 1) rfl x rfl 51 (rq q f l c p i) (0, 0) _ (fun V hV => hV.1) Try.underlying51 rfl size51); (try simp only [s1, s2, s3])
  refine wpAnyH_ready (rs := [11]) (by kernel_rfl) (by simp) ?_
  refine AllReadyH.cons rfl (fun K hK => ?_) ?_
  · rw [if_pos (by rfl)]
    go_simp
    go_at_call 29
    refine (onlyq_any q f l c p i HK.out _ (R1.out.below hS0.2)).mono ?_
    rintro e wO ⟨f', l', c', p', i', rfl, hro, hbO⟩
    dsimp only
    refine hK.out _ _ (keepQ lw.out (by assumption) hbO) (fun hHeld => ?_)
    clear hK K; try simp only [Act.put, s1, s2, s3]
    refine wpAnyH_ready (rs := [12]) (by kernel_rfl) (by simp) ?_
    refine AllReadyH.cons rfl (fun K hK => ?_) ?_
    · rw [if_pos (by rfl)]
      go_simp
      go_at_call 30
      refine (rsamerq_any q (onlyQ q) f l c p i f' l' c' p' i' HSZ.out wO (R1.out.below hHeld.2) hro).mono ?_
      rw [onlyRB_ref q HK.out, H2.out]
      rintro e wS ⟨rfl, hbS⟩
      dsimp only
      refine hK.out _ _ (keepQ lw.out (by assumption) hbS) (fun hHeld => ?_)
      clear hK K; try simp only [Act.put, s1, s2, s3]
      refine tk 13 16 (.bool true) ?_; (try simp only [s1, s2, s3]); refine tk 14 17 (.bool true) ?_; (try simp only [s1, s2, s3])
      refine wpAnyH_done (by kernel_rfl) ?_ _
      have HE := Lib.hid hHeld
      go_wp2
      go_ret
      exact ⟨by rw [HS.out]; rfl, B1.out.trans (belowLe B1.out.size HE.out.2)⟩
    exact AllReadyH.nil
  exact AllReadyH.nil
set_option maxRecDepth 100000 in
set_option maxHeartbeats 4000000 in
theorem right27_w (q : Rq) (f l c p i : Sl) (hs : q.ob.fins.length ≤ 1000000 ∧ q.ob.labels.length ≤ 1000000 ∧ q.ob.cidrs.length ≤ 1000000 ∧ q.ob.fams.length ≤ 1000000 ∧ q.ob.ips.length ≤ 1000000) (h0 : ¬ q.op < 1) (h1 : ¬ 5 < q.op) (h2 : onlyRB q = true) (h3 : wholeB q.op = true) (w : World) (hr : RowsR w q.ob f l c p i) :
    Calls Try.prog 27 #[.agg (rq q f l c p i)] w fun e w' => e = .returned (.bool (rightB q)) ∧ Below w.heap.size w w' := by
  obtain ⟨w1, hw1, b1, p1⟩ := one_rq w (rq q f l c p i)
  obtain ⟨x, hx⟩ : ∃ x, x = w.heap.size := ⟨_, rfl⟩
  have lw := Lib.hid (show x < w1.heap.size by rw [hx]; exact (Array.getElem?_eq_some_iff.1 p1).1)
  rw [← hx] at p1
  obtain ⟨ka0, ka20, ka21, ka22⟩ := rq_at x q f l c p i
  have R1 := Lib.hid (hr.below b1)
  have HSZ := Lib.hid hs
  have HW := Lib.hid hw1
  have B1 := Lib.hid b1
  have P1 := Lib.hid p1
  have KA0 := Lib.hid ka0
  have KA20 := Lib.hid ka20
  have KA21 := Lib.hid ka21
  have KA22 := Lib.hid ka22
  have hS : rightB q = CodP.shape q.ob := by unfold rightB; rw [show inR (q.op - 1) 4 = true from decide_eq_true (by omega), h2, if_pos h3, Bool.true_and, Bool.true_and]
  have HS := Lib.hid hS
  have HWH := Lib.hid h3
  have d0 : decide (q.op < 1) = false := decide_eq_false h0
  have d1 : decide (5 < q.op) = false := decide_eq_false h1
  have HK := Lib.hid (show 1 ≤ q.op ∧ q.op ≤ 5 by omega)
  have H2 := Lib.hid h2
  clear b1 p1 hw1 hr hs ka0 ka20 ka21 ka22 h2 h3 hS
  go_enter Try.func27, Try.ntmps27
  go_upto_region 1 with (fail)
  rw [← HW.out, ← hx]
  clear hx
  refine wp_region_held_drew (S := fun V => V.heap[x]? = some (.cells (rq q f l c p i) 51 (0, 0)) ∧ Below w1.heap.size w1 V) (by kernel_rfl) ⟨P1.out, ⟨rfl, rfl, rfl, Nat.le_refl _, fun _ _ => rfl⟩⟩ (fun hS0 => ?_)
  refine tk 0 3 (.pointer (some ⟨x, 0, none⟩)) ?_; (try simp only [s1, s2, s3]); refine tk 1 4 (.int .i64 q.op) ?_ (hv := by (intro V hV; have hc := KA0.out V hV.1; clear hV; go_simp; try rfl)); (try simp only [s1, s2, s3]); refine tk 2 5 (.bool false) ?_; (try simp only [s1, s2, s3]); refine tk 3 6 (.bool false) ?_; (try simp only [s1, s2, s3]); refine tk 4 7 (.pointer (some ⟨x, 0, none⟩)) ?_; (try simp only [s1, s2, s3]); refine tk 5 8 (.int .i64 q.op) ?_ (hv := by (intro V hV; have hc := KA0.out V hV.1; clear hV; go_simp; try rfl)); (try simp only [s1, s2, s3]); refine tk 6 9 (.bool false) ?_; (try simp only [s1, s2, s3]); refine tk 7 10 (.bool false) ?_; (try simp only [s1, s2, s3]); refine tk 8 11 (.bool false) ?_; (try simp only [s1, s2, s3]); refine tk 9 12 (.agg (rq q f l c p i)) ?_ (hv := by exact load_row_yields 51 (.tmp 1) rfl x rfl 51 (rq q f l c p i) (0, 0) _ (fun V hV => hV.1) Try.underlying51 rfl size51); (try simp only [s1, s2, s3]); refine tk 10 13 (.agg (rq q f l c p i)) ?_ (hv := by exact load_row_yields 51 (.tmp 1) rfl x rfl 51 (rq q f l c p i) (0, 0) _ (fun V hV => hV.1) Try.underlying51 rfl size51); (try simp only [s1, s2, s3])
  refine wpAnyH_ready (rs := [11]) (by kernel_rfl) (by simp) ?_
  refine AllReadyH.cons rfl (fun K hK => ?_) ?_
  · rw [if_pos (by rfl)]
    go_simp
    go_at_call 29
    refine (onlyq_any q f l c p i HK.out _ (R1.out.below hS0.2)).mono ?_
    rintro e wO ⟨f', l', c', p', i', rfl, hro, hbO⟩
    dsimp only
    refine hK.out _ _ (keepQ lw.out (by assumption) hbO) (fun hHeld => ?_)
    clear hK K; try simp only [Act.put, s1, s2, s3]
    refine wpAnyH_ready (rs := [12]) (by kernel_rfl) (by simp) ?_
    refine AllReadyH.cons rfl (fun K hK => ?_) ?_
    · rw [if_pos (by rfl)]
      go_simp
      go_at_call 30
      refine (rsamerq_any q (onlyQ q) f l c p i f' l' c' p' i' HSZ.out wO (R1.out.below hHeld.2) hro).mono ?_
      rw [onlyRB_ref q HK.out, H2.out]
      rintro e wS ⟨rfl, hbS⟩
      dsimp only
      refine hK.out _ _ (keepQ lw.out (by assumption) hbS) (fun hHeld => ?_)
      clear hK K; try simp only [Act.put, s1, s2, s3]
      refine tk 13 16 (.bool false) ?_; (try simp only [s1, s2, s3]); refine tk 14 17 (.bool false) ?_; (try simp only [s1, s2, s3])
      refine wpAnyH_done (by kernel_rfl) ?_ _
      have B3 := Lib.hid (B1.out.trans (belowLe B1.out.size hHeld.2))
      have P3 := Lib.hid hHeld.1
      have R3 := Lib.hid (R1.out.below hHeld.2)
      repeat clear hHeld
      clear hS0
      go_upto_region 3 with (fail)
      have cx := KA0.out _ P3.out
      have dw : decide (q.op ≤ 2) = true := by have := HWH.out; exact decide_eq_true (by have h := of_decide_eq_true this; omega)
      go_upto_region 4 with (fail)
      clear cx dw
      iterate 4 (first | go_values | go_skip | go_guarded | go_step)
      refine wpList_load_elem rfl (.tmp 21) rfl x 1 rfl ⟨q.ob, f, l, c, p, i⟩ (rq_mid P3.out) ?_
      go_wp2_with (fail)
      refine (rshape_any q.ob f l c p i HSZ.out _ R3.out).mono ?_
      rintro e w6 ⟨rfl, hb6⟩
      go_wp2
      go_ret
      exact ⟨by rw [HS.out]; rfl, B3.out.trans (belowLe B3.out.size hb6)⟩
    exact AllReadyH.nil
  exact AllReadyH.nil
set_option maxRecDepth 100000 in
set_option maxHeartbeats 4000000 in
theorem right27_r0 (q : Rq) (f l c p i : Sl) (hs : q.ob.fins.length ≤ 1000000 ∧ q.ob.labels.length ≤ 1000000 ∧ q.ob.cidrs.length ≤ 1000000 ∧ q.ob.fams.length ≤ 1000000 ∧ q.ob.ips.length ≤ 1000000) (h0 : ¬ q.op < 1) (h1 : ¬ 5 < q.op) (h2 : onlyRB q = true) (h3 : wholeB q.op = false) (r0 : ¬ (1 ≤ q.kind)) (w : World) (hr : RowsR w q.ob f l c p i) :
    Calls Try.prog 27 #[.agg (rq q f l c p i)] w fun e w' => e = .returned (.bool (rightB q)) ∧ Below w.heap.size w w' := by
  obtain ⟨w1, hw1, b1, p1⟩ := one_rq w (rq q f l c p i)
  obtain ⟨x, hx⟩ : ∃ x, x = w.heap.size := ⟨_, rfl⟩
  have lw := Lib.hid (show x < w1.heap.size by rw [hx]; exact (Array.getElem?_eq_some_iff.1 p1).1)
  rw [← hx] at p1
  obtain ⟨ka0, ka20, ka21, ka22⟩ := rq_at x q f l c p i
  have R1 := Lib.hid (hr.below b1)
  have HSZ := Lib.hid hs
  have HW := Lib.hid hw1
  have B1 := Lib.hid b1
  have P1 := Lib.hid p1
  have KA0 := Lib.hid ka0
  have KA20 := Lib.hid ka20
  have KA21 := Lib.hid ka21
  have KA22 := Lib.hid ka22
  have hok : okRest q = false := by unfold okRest; rw [show inR (q.kind - 1) 3 = false from decide_eq_false (by omega), Bool.false_and]
  have hS : rightB q = false := by unfold rightB; rw [show inR (q.op - 1) 4 = true from decide_eq_true (by omega), h2, if_neg (by rw [h3]; decide), hok]; rfl
  have HS := Lib.hid hS
  have HWH := Lib.hid h3
  have d0 : decide (q.op < 1) = false := decide_eq_false h0
  have d1 : decide (5 < q.op) = false := decide_eq_false h1
  have HK := Lib.hid (show 1 ≤ q.op ∧ q.op ≤ 5 by omega)
  have e0 : decide (1 ≤ q.kind) = false := decide_eq_false (by omega)
  have H2 := Lib.hid h2
  clear b1 p1 hw1 hr hs ka0 ka20 ka21 ka22 h2 h3 hS hok
  go_enter Try.func27, Try.ntmps27
  go_upto_region 1 with (fail)
  rw [← HW.out, ← hx]
  clear hx
  refine wp_region_held_drew (S := fun V => V.heap[x]? = some (.cells (rq q f l c p i) 51 (0, 0)) ∧ Below w1.heap.size w1 V) (by kernel_rfl) ⟨P1.out, ⟨rfl, rfl, rfl, Nat.le_refl _, fun _ _ => rfl⟩⟩ (fun hS0 => ?_)
  refine tk 0 3 (.pointer (some ⟨x, 0, none⟩)) ?_; (try simp only [s1, s2, s3]); refine tk 1 4 (.int .i64 q.op) ?_ (hv := by (intro V hV; have hc := KA0.out V hV.1; clear hV; go_simp; try rfl)); (try simp only [s1, s2, s3]); refine tk 2 5 (.bool false) ?_; (try simp only [s1, s2, s3]); refine tk 3 6 (.bool false) ?_; (try simp only [s1, s2, s3]); refine tk 4 7 (.pointer (some ⟨x, 0, none⟩)) ?_; (try simp only [s1, s2, s3]); refine tk 5 8 (.int .i64 q.op) ?_ (hv := by (intro V hV; have hc := KA0.out V hV.1; clear hV; go_simp; try rfl)); (try simp only [s1, s2, s3]); refine tk 6 9 (.bool false) ?_; (try simp only [s1, s2, s3]); refine tk 7 10 (.bool false) ?_; (try simp only [s1, s2, s3]); refine tk 8 11 (.bool false) ?_; (try simp only [s1, s2, s3]); refine tk 9 12 (.agg (rq q f l c p i)) ?_ (hv := by exact load_row_yields 51 (.tmp 1) rfl x rfl 51 (rq q f l c p i) (0, 0) _ (fun V hV => hV.1) Try.underlying51 rfl size51); (try simp only [s1, s2, s3]); refine tk 10 13 (.agg (rq q f l c p i)) ?_ (hv := by exact load_row_yields 51 (.tmp 1) rfl x rfl 51 (rq q f l c p i) (0, 0) _ (fun V hV => hV.1) Try.underlying51 rfl size51); (try simp only [s1, s2, s3])
  refine wpAnyH_ready (rs := [11]) (by kernel_rfl) (by simp) ?_
  refine AllReadyH.cons rfl (fun K hK => ?_) ?_
  · rw [if_pos (by rfl)]
    go_simp
    go_at_call 29
    refine (onlyq_any q f l c p i HK.out _ (R1.out.below hS0.2)).mono ?_
    rintro e wO ⟨f', l', c', p', i', rfl, hro, hbO⟩
    dsimp only
    refine hK.out _ _ (keepQ lw.out (by assumption) hbO) (fun hHeld => ?_)
    clear hK K; try simp only [Act.put, s1, s2, s3]
    refine wpAnyH_ready (rs := [12]) (by kernel_rfl) (by simp) ?_
    refine AllReadyH.cons rfl (fun K hK => ?_) ?_
    · rw [if_pos (by rfl)]
      go_simp
      go_at_call 30
      refine (rsamerq_any q (onlyQ q) f l c p i f' l' c' p' i' HSZ.out wO (R1.out.below hHeld.2) hro).mono ?_
      rw [onlyRB_ref q HK.out, H2.out]
      rintro e wS ⟨rfl, hbS⟩
      dsimp only
      refine hK.out _ _ (keepQ lw.out (by assumption) hbS) (fun hHeld => ?_)
      clear hK K; try simp only [Act.put, s1, s2, s3]
      refine tk 13 16 (.bool false) ?_; (try simp only [s1, s2, s3]); refine tk 14 17 (.bool false) ?_; (try simp only [s1, s2, s3])
      refine wpAnyH_done (by kernel_rfl) ?_ _
      have B3 := Lib.hid (B1.out.trans (belowLe B1.out.size hHeld.2))
      have P3 := Lib.hid hHeld.1
      have R3 := Lib.hid (R1.out.below hHeld.2)
      repeat clear hHeld
      clear hS0
      go_upto_region 3 with (fail)
      have cx := KA0.out _ P3.out
      have cx20 := KA20.out _ P3.out
      have cx21 := KA21.out _ P3.out
      have cx22 := KA22.out _ P3.out
      have dw : decide (q.op ≤ 2) = false := by have h := of_decide_eq_false HWH.out; exact decide_eq_false (by have := HK.out; omega)
      go_wp2
      go_ret
      exact ⟨by rw [HS.out]; rfl, B3.out⟩
    exact AllReadyH.nil
  exact AllReadyH.nil
set_option maxRecDepth 100000 in
set_option maxHeartbeats 4000000 in
theorem right27_r1 (q : Rq) (f l c p i : Sl) (hs : q.ob.fins.length ≤ 1000000 ∧ q.ob.labels.length ≤ 1000000 ∧ q.ob.cidrs.length ≤ 1000000 ∧ q.ob.fams.length ≤ 1000000 ∧ q.ob.ips.length ≤ 1000000) (h0 : ¬ q.op < 1) (h1 : ¬ 5 < q.op) (h2 : onlyRB q = true) (h3 : wholeB q.op = false) (r0 : 1 ≤ q.kind) (r1 : ¬ (q.kind ≤ 4)) (w : World) (hr : RowsR w q.ob f l c p i) :
    Calls Try.prog 27 #[.agg (rq q f l c p i)] w fun e w' => e = .returned (.bool (rightB q)) ∧ Below w.heap.size w w' := by
  obtain ⟨w1, hw1, b1, p1⟩ := one_rq w (rq q f l c p i)
  obtain ⟨x, hx⟩ : ∃ x, x = w.heap.size := ⟨_, rfl⟩
  have lw := Lib.hid (show x < w1.heap.size by rw [hx]; exact (Array.getElem?_eq_some_iff.1 p1).1)
  rw [← hx] at p1
  obtain ⟨ka0, ka20, ka21, ka22⟩ := rq_at x q f l c p i
  have R1 := Lib.hid (hr.below b1)
  have HSZ := Lib.hid hs
  have HW := Lib.hid hw1
  have B1 := Lib.hid b1
  have P1 := Lib.hid p1
  have KA0 := Lib.hid ka0
  have KA20 := Lib.hid ka20
  have KA21 := Lib.hid ka21
  have KA22 := Lib.hid ka22
  have hok : okRest q = false := by unfold okRest; rw [show inR (q.kind - 1) 3 = false from decide_eq_false (by omega), Bool.false_and]
  have hS : rightB q = false := by unfold rightB; rw [show inR (q.op - 1) 4 = true from decide_eq_true (by omega), h2, if_neg (by rw [h3]; decide), hok]; rfl
  have HS := Lib.hid hS
  have HWH := Lib.hid h3
  have d0 : decide (q.op < 1) = false := decide_eq_false h0
  have d1 : decide (5 < q.op) = false := decide_eq_false h1
  have HK := Lib.hid (show 1 ≤ q.op ∧ q.op ≤ 5 by omega)
  have e0 : decide (1 ≤ q.kind) = true := decide_eq_true (by omega)
  have e1 : decide (q.kind ≤ 4) = false := decide_eq_false (by omega)
  have H2 := Lib.hid h2
  clear b1 p1 hw1 hr hs ka0 ka20 ka21 ka22 h2 h3 hS hok
  go_enter Try.func27, Try.ntmps27
  go_upto_region 1 with (fail)
  rw [← HW.out, ← hx]
  clear hx
  refine wp_region_held_drew (S := fun V => V.heap[x]? = some (.cells (rq q f l c p i) 51 (0, 0)) ∧ Below w1.heap.size w1 V) (by kernel_rfl) ⟨P1.out, ⟨rfl, rfl, rfl, Nat.le_refl _, fun _ _ => rfl⟩⟩ (fun hS0 => ?_)
  refine tk 0 3 (.pointer (some ⟨x, 0, none⟩)) ?_; (try simp only [s1, s2, s3]); refine tk 1 4 (.int .i64 q.op) ?_ (hv := by (intro V hV; have hc := KA0.out V hV.1; clear hV; go_simp; try rfl)); (try simp only [s1, s2, s3]); refine tk 2 5 (.bool false) ?_; (try simp only [s1, s2, s3]); refine tk 3 6 (.bool false) ?_; (try simp only [s1, s2, s3]); refine tk 4 7 (.pointer (some ⟨x, 0, none⟩)) ?_; (try simp only [s1, s2, s3]); refine tk 5 8 (.int .i64 q.op) ?_ (hv := by (intro V hV; have hc := KA0.out V hV.1; clear hV; go_simp; try rfl)); (try simp only [s1, s2, s3]); refine tk 6 9 (.bool false) ?_; (try simp only [s1, s2, s3]); refine tk 7 10 (.bool false) ?_; (try simp only [s1, s2, s3]); refine tk 8 11 (.bool false) ?_; (try simp only [s1, s2, s3]); refine tk 9 12 (.agg (rq q f l c p i)) ?_ (hv := by exact load_row_yields 51 (.tmp 1) rfl x rfl 51 (rq q f l c p i) (0, 0) _ (fun V hV => hV.1) Try.underlying51 rfl size51); (try simp only [s1, s2, s3]); refine tk 10 13 (.agg (rq q f l c p i)) ?_ (hv := by exact load_row_yields 51 (.tmp 1) rfl x rfl 51 (rq q f l c p i) (0, 0) _ (fun V hV => hV.1) Try.underlying51 rfl size51); (try simp only [s1, s2, s3])
  refine wpAnyH_ready (rs := [11]) (by kernel_rfl) (by simp) ?_
  refine AllReadyH.cons rfl (fun K hK => ?_) ?_
  · rw [if_pos (by rfl)]
    go_simp
    go_at_call 29
    refine (onlyq_any q f l c p i HK.out _ (R1.out.below hS0.2)).mono ?_
    rintro e wO ⟨f', l', c', p', i', rfl, hro, hbO⟩
    dsimp only
    refine hK.out _ _ (keepQ lw.out (by assumption) hbO) (fun hHeld => ?_)
    clear hK K; try simp only [Act.put, s1, s2, s3]
    refine wpAnyH_ready (rs := [12]) (by kernel_rfl) (by simp) ?_
    refine AllReadyH.cons rfl (fun K hK => ?_) ?_
    · rw [if_pos (by rfl)]
      go_simp
      go_at_call 30
      refine (rsamerq_any q (onlyQ q) f l c p i f' l' c' p' i' HSZ.out wO (R1.out.below hHeld.2) hro).mono ?_
      rw [onlyRB_ref q HK.out, H2.out]
      rintro e wS ⟨rfl, hbS⟩
      dsimp only
      refine hK.out _ _ (keepQ lw.out (by assumption) hbS) (fun hHeld => ?_)
      clear hK K; try simp only [Act.put, s1, s2, s3]
      refine tk 13 16 (.bool false) ?_; (try simp only [s1, s2, s3]); refine tk 14 17 (.bool false) ?_; (try simp only [s1, s2, s3])
      refine wpAnyH_done (by kernel_rfl) ?_ _
      have B3 := Lib.hid (B1.out.trans (belowLe B1.out.size hHeld.2))
      have P3 := Lib.hid hHeld.1
      have R3 := Lib.hid (R1.out.below hHeld.2)
      repeat clear hHeld
      clear hS0
      go_upto_region 3 with (fail)
      have cx := KA0.out _ P3.out
      have cx20 := KA20.out _ P3.out
      have cx21 := KA21.out _ P3.out
      have cx22 := KA22.out _ P3.out
      have dw : decide (q.op ≤ 2) = false := by have h := of_decide_eq_false HWH.out; exact decide_eq_false (by have := HK.out; omega)
      go_wp2
      go_ret
      exact ⟨by rw [HS.out]; rfl, B3.out⟩
    exact AllReadyH.nil
  exact AllReadyH.nil
set_option maxRecDepth 100000 in
set_option maxHeartbeats 4000000 in
theorem right27_r2 (q : Rq) (f l c p i : Sl) (hs : q.ob.fins.length ≤ 1000000 ∧ q.ob.labels.length ≤ 1000000 ∧ q.ob.cidrs.length ≤ 1000000 ∧ q.ob.fams.length ≤ 1000000 ∧ q.ob.ips.length ≤ 1000000) (h0 : ¬ q.op < 1) (h1 : ¬ 5 < q.op) (h2 : onlyRB q = true) (h3 : wholeB q.op = false) (r0 : 1 ≤ q.kind) (r1 : q.kind ≤ 4) (r2 : ¬ (q.name.size ≤ 200)) (w : World) (hr : RowsR w q.ob f l c p i) :
    Calls Try.prog 27 #[.agg (rq q f l c p i)] w fun e w' => e = .returned (.bool (rightB q)) ∧ Below w.heap.size w w' := by
  obtain ⟨w1, hw1, b1, p1⟩ := one_rq w (rq q f l c p i)
  obtain ⟨x, hx⟩ : ∃ x, x = w.heap.size := ⟨_, rfl⟩
  have lw := Lib.hid (show x < w1.heap.size by rw [hx]; exact (Array.getElem?_eq_some_iff.1 p1).1)
  rw [← hx] at p1
  obtain ⟨ka0, ka20, ka21, ka22⟩ := rq_at x q f l c p i
  have R1 := Lib.hid (hr.below b1)
  have HSZ := Lib.hid hs
  have HW := Lib.hid hw1
  have B1 := Lib.hid b1
  have P1 := Lib.hid p1
  have KA0 := Lib.hid ka0
  have KA20 := Lib.hid ka20
  have KA21 := Lib.hid ka21
  have KA22 := Lib.hid ka22
  have hok : okRest q = false := by unfold okRest; rw [show decide (q.name.size ≤ 200) = false from decide_eq_false (by omega), Bool.false_and, Bool.and_false]
  have hS : rightB q = false := by unfold rightB; rw [show inR (q.op - 1) 4 = true from decide_eq_true (by omega), h2, if_neg (by rw [h3]; decide), hok]; rfl
  have HS := Lib.hid hS
  have HWH := Lib.hid h3
  have d0 : decide (q.op < 1) = false := decide_eq_false h0
  have d1 : decide (5 < q.op) = false := decide_eq_false h1
  have HK := Lib.hid (show 1 ≤ q.op ∧ q.op ≤ 5 by omega)
  have e0 : decide (1 ≤ q.kind) = true := decide_eq_true (by omega)
  have e1 : decide (q.kind ≤ 4) = true := decide_eq_true (by omega)
  have e2 : decide ((q.name.size : Int) ≤ 200) = false := decide_eq_false (by omega)
  have H2 := Lib.hid h2
  clear b1 p1 hw1 hr hs ka0 ka20 ka21 ka22 h2 h3 hS hok
  go_enter Try.func27, Try.ntmps27
  go_upto_region 1 with (fail)
  rw [← HW.out, ← hx]
  clear hx
  refine wp_region_held_drew (S := fun V => V.heap[x]? = some (.cells (rq q f l c p i) 51 (0, 0)) ∧ Below w1.heap.size w1 V) (by kernel_rfl) ⟨P1.out, ⟨rfl, rfl, rfl, Nat.le_refl _, fun _ _ => rfl⟩⟩ (fun hS0 => ?_)
  refine tk 0 3 (.pointer (some ⟨x, 0, none⟩)) ?_; (try simp only [s1, s2, s3]); refine tk 1 4 (.int .i64 q.op) ?_ (hv := by (intro V hV; have hc := KA0.out V hV.1; clear hV; go_simp; try rfl)); (try simp only [s1, s2, s3]); refine tk 2 5 (.bool false) ?_; (try simp only [s1, s2, s3]); refine tk 3 6 (.bool false) ?_; (try simp only [s1, s2, s3]); refine tk 4 7 (.pointer (some ⟨x, 0, none⟩)) ?_; (try simp only [s1, s2, s3]); refine tk 5 8 (.int .i64 q.op) ?_ (hv := by (intro V hV; have hc := KA0.out V hV.1; clear hV; go_simp; try rfl)); (try simp only [s1, s2, s3]); refine tk 6 9 (.bool false) ?_; (try simp only [s1, s2, s3]); refine tk 7 10 (.bool false) ?_; (try simp only [s1, s2, s3]); refine tk 8 11 (.bool false) ?_; (try simp only [s1, s2, s3]); refine tk 9 12 (.agg (rq q f l c p i)) ?_ (hv := by exact load_row_yields 51 (.tmp 1) rfl x rfl 51 (rq q f l c p i) (0, 0) _ (fun V hV => hV.1) Try.underlying51 rfl size51); (try simp only [s1, s2, s3]); refine tk 10 13 (.agg (rq q f l c p i)) ?_ (hv := by exact load_row_yields 51 (.tmp 1) rfl x rfl 51 (rq q f l c p i) (0, 0) _ (fun V hV => hV.1) Try.underlying51 rfl size51); (try simp only [s1, s2, s3])
  refine wpAnyH_ready (rs := [11]) (by kernel_rfl) (by simp) ?_
  refine AllReadyH.cons rfl (fun K hK => ?_) ?_
  · rw [if_pos (by rfl)]
    go_simp
    go_at_call 29
    refine (onlyq_any q f l c p i HK.out _ (R1.out.below hS0.2)).mono ?_
    rintro e wO ⟨f', l', c', p', i', rfl, hro, hbO⟩
    dsimp only
    refine hK.out _ _ (keepQ lw.out (by assumption) hbO) (fun hHeld => ?_)
    clear hK K; try simp only [Act.put, s1, s2, s3]
    refine wpAnyH_ready (rs := [12]) (by kernel_rfl) (by simp) ?_
    refine AllReadyH.cons rfl (fun K hK => ?_) ?_
    · rw [if_pos (by rfl)]
      go_simp
      go_at_call 30
      refine (rsamerq_any q (onlyQ q) f l c p i f' l' c' p' i' HSZ.out wO (R1.out.below hHeld.2) hro).mono ?_
      rw [onlyRB_ref q HK.out, H2.out]
      rintro e wS ⟨rfl, hbS⟩
      dsimp only
      refine hK.out _ _ (keepQ lw.out (by assumption) hbS) (fun hHeld => ?_)
      clear hK K; try simp only [Act.put, s1, s2, s3]
      refine tk 13 16 (.bool false) ?_; (try simp only [s1, s2, s3]); refine tk 14 17 (.bool false) ?_; (try simp only [s1, s2, s3])
      refine wpAnyH_done (by kernel_rfl) ?_ _
      have B3 := Lib.hid (B1.out.trans (belowLe B1.out.size hHeld.2))
      have P3 := Lib.hid hHeld.1
      have R3 := Lib.hid (R1.out.below hHeld.2)
      repeat clear hHeld
      clear hS0
      go_upto_region 3 with (fail)
      have cx := KA0.out _ P3.out
      have cx20 := KA20.out _ P3.out
      have cx21 := KA21.out _ P3.out
      have cx22 := KA22.out _ P3.out
      have dw : decide (q.op ≤ 2) = false := by have h := of_decide_eq_false HWH.out; exact decide_eq_false (by have := HK.out; omega)
      go_wp2
      go_ret
      exact ⟨by rw [HS.out]; rfl, B3.out⟩
    exact AllReadyH.nil
  exact AllReadyH.nil
set_option maxRecDepth 100000 in
set_option maxHeartbeats 4000000 in
theorem right27_r3 (q : Rq) (f l c p i : Sl) (hs : q.ob.fins.length ≤ 1000000 ∧ q.ob.labels.length ≤ 1000000 ∧ q.ob.cidrs.length ≤ 1000000 ∧ q.ob.fams.length ≤ 1000000 ∧ q.ob.ips.length ≤ 1000000) (h0 : ¬ q.op < 1) (h1 : ¬ 5 < q.op) (h2 : onlyRB q = true) (h3 : wholeB q.op = false) (r0 : 1 ≤ q.kind) (r1 : q.kind ≤ 4) (r2 : q.name.size ≤ 200) (r3 : inR q.version 1099511627776 = false) (w : World) (hr : RowsR w q.ob f l c p i) :
    Calls Try.prog 27 #[.agg (rq q f l c p i)] w fun e w' => e = .returned (.bool (rightB q)) ∧ Below w.heap.size w w' := by
  obtain ⟨w1, hw1, b1, p1⟩ := one_rq w (rq q f l c p i)
  obtain ⟨x, hx⟩ : ∃ x, x = w.heap.size := ⟨_, rfl⟩
  have lw := Lib.hid (show x < w1.heap.size by rw [hx]; exact (Array.getElem?_eq_some_iff.1 p1).1)
  rw [← hx] at p1
  obtain ⟨ka0, ka20, ka21, ka22⟩ := rq_at x q f l c p i
  have R1 := Lib.hid (hr.below b1)
  have HSZ := Lib.hid hs
  have HW := Lib.hid hw1
  have B1 := Lib.hid b1
  have P1 := Lib.hid p1
  have KA0 := Lib.hid ka0
  have KA20 := Lib.hid ka20
  have KA21 := Lib.hid ka21
  have KA22 := Lib.hid ka22
  have hok : okRest q = false := by unfold okRest; rw [r3, Bool.and_false, Bool.and_false]
  have hS : rightB q = false := by unfold rightB; rw [show inR (q.op - 1) 4 = true from decide_eq_true (by omega), h2, if_neg (by rw [h3]; decide), hok]; rfl
  have HS := Lib.hid hS
  have HWH := Lib.hid h3
  have d0 : decide (q.op < 1) = false := decide_eq_false h0
  have d1 : decide (5 < q.op) = false := decide_eq_false h1
  have HK := Lib.hid (show 1 ≤ q.op ∧ q.op ≤ 5 by omega)
  have e0 : decide (1 ≤ q.kind) = true := decide_eq_true (by omega)
  have e1 : decide (q.kind ≤ 4) = true := decide_eq_true (by omega)
  have e2 : decide ((q.name.size : Int) ≤ 200) = true := decide_eq_true (by omega)
  have HV := Lib.hid r3
  have H2 := Lib.hid h2
  clear b1 p1 hw1 hr hs ka0 ka20 ka21 ka22 h2 h3 hS hok r3
  go_enter Try.func27, Try.ntmps27
  go_upto_region 1 with (fail)
  rw [← HW.out, ← hx]
  clear hx
  refine wp_region_held_drew (S := fun V => V.heap[x]? = some (.cells (rq q f l c p i) 51 (0, 0)) ∧ Below w1.heap.size w1 V) (by kernel_rfl) ⟨P1.out, ⟨rfl, rfl, rfl, Nat.le_refl _, fun _ _ => rfl⟩⟩ (fun hS0 => ?_)
  refine tk 0 3 (.pointer (some ⟨x, 0, none⟩)) ?_; (try simp only [s1, s2, s3]); refine tk 1 4 (.int .i64 q.op) ?_ (hv := by (intro V hV; have hc := KA0.out V hV.1; clear hV; go_simp; try rfl)); (try simp only [s1, s2, s3]); refine tk 2 5 (.bool false) ?_; (try simp only [s1, s2, s3]); refine tk 3 6 (.bool false) ?_; (try simp only [s1, s2, s3]); refine tk 4 7 (.pointer (some ⟨x, 0, none⟩)) ?_; (try simp only [s1, s2, s3]); refine tk 5 8 (.int .i64 q.op) ?_ (hv := by (intro V hV; have hc := KA0.out V hV.1; clear hV; go_simp; try rfl)); (try simp only [s1, s2, s3]); refine tk 6 9 (.bool false) ?_; (try simp only [s1, s2, s3]); refine tk 7 10 (.bool false) ?_; (try simp only [s1, s2, s3]); refine tk 8 11 (.bool false) ?_; (try simp only [s1, s2, s3]); refine tk 9 12 (.agg (rq q f l c p i)) ?_ (hv := by exact load_row_yields 51 (.tmp 1) rfl x rfl 51 (rq q f l c p i) (0, 0) _ (fun V hV => hV.1) Try.underlying51 rfl size51); (try simp only [s1, s2, s3]); refine tk 10 13 (.agg (rq q f l c p i)) ?_ (hv := by exact load_row_yields 51 (.tmp 1) rfl x rfl 51 (rq q f l c p i) (0, 0) _ (fun V hV => hV.1) Try.underlying51 rfl size51); (try simp only [s1, s2, s3])
  refine wpAnyH_ready (rs := [11]) (by kernel_rfl) (by simp) ?_
  refine AllReadyH.cons rfl (fun K hK => ?_) ?_
  · rw [if_pos (by rfl)]
    go_simp
    go_at_call 29
    refine (onlyq_any q f l c p i HK.out _ (R1.out.below hS0.2)).mono ?_
    rintro e wO ⟨f', l', c', p', i', rfl, hro, hbO⟩
    dsimp only
    refine hK.out _ _ (keepQ lw.out (by assumption) hbO) (fun hHeld => ?_)
    clear hK K; try simp only [Act.put, s1, s2, s3]
    refine wpAnyH_ready (rs := [12]) (by kernel_rfl) (by simp) ?_
    refine AllReadyH.cons rfl (fun K hK => ?_) ?_
    · rw [if_pos (by rfl)]
      go_simp
      go_at_call 30
      refine (rsamerq_any q (onlyQ q) f l c p i f' l' c' p' i' HSZ.out wO (R1.out.below hHeld.2) hro).mono ?_
      rw [onlyRB_ref q HK.out, H2.out]
      rintro e wS ⟨rfl, hbS⟩
      dsimp only
      refine hK.out _ _ (keepQ lw.out (by assumption) hbS) (fun hHeld => ?_)
      clear hK K; try simp only [Act.put, s1, s2, s3]
      refine tk 13 16 (.bool false) ?_; (try simp only [s1, s2, s3]); refine tk 14 17 (.bool false) ?_; (try simp only [s1, s2, s3])
      refine wpAnyH_done (by kernel_rfl) ?_ _
      have B3 := Lib.hid (B1.out.trans (belowLe B1.out.size hHeld.2))
      have P3 := Lib.hid hHeld.1
      have R3 := Lib.hid (R1.out.below hHeld.2)
      repeat clear hHeld
      clear hS0
      go_upto_region 3 with (fail)
      have cx := KA0.out _ P3.out
      have cx20 := KA20.out _ P3.out
      have cx21 := KA21.out _ P3.out
      have cx22 := KA22.out _ P3.out
      have dw : decide (q.op ≤ 2) = false := by have h := of_decide_eq_false HWH.out; exact decide_eq_false (by have := HK.out; omega)
      go_wp2_with (go_at_call 57; refine (in_any q.version 1099511627776 false HV.out _).mono ?_; rintro e w4 ⟨rfl, hw4⟩; have hw5 := hw4.symm; clear hw4; subst hw5)
      go_ret
      exact ⟨by rw [HS.out]; rfl, B3.out⟩
    exact AllReadyH.nil
  exact AllReadyH.nil
set_option maxRecDepth 100000 in
set_option maxHeartbeats 4000000 in
theorem right27_r5 (q : Rq) (f l c p i : Sl) (hs : q.ob.fins.length ≤ 1000000 ∧ q.ob.labels.length ≤ 1000000 ∧ q.ob.cidrs.length ≤ 1000000 ∧ q.ob.fams.length ≤ 1000000 ∧ q.ob.ips.length ≤ 1000000) (h0 : ¬ q.op < 1) (h1 : ¬ 5 < q.op) (h2 : onlyRB q = true) (h3 : wholeB q.op = false) (r0 : 1 ≤ q.kind) (r1 : q.kind ≤ 4) (r2 : q.name.size ≤ 200) (r3 : inR q.version 1099511627776 = true) (w : World) (hr : RowsR w q.ob f l c p i) :
    Calls Try.prog 27 #[.agg (rq q f l c p i)] w fun e w' => e = .returned (.bool (rightB q)) ∧ Below w.heap.size w w' := by
  obtain ⟨w1, hw1, b1, p1⟩ := one_rq w (rq q f l c p i)
  obtain ⟨x, hx⟩ : ∃ x, x = w.heap.size := ⟨_, rfl⟩
  have lw := Lib.hid (show x < w1.heap.size by rw [hx]; exact (Array.getElem?_eq_some_iff.1 p1).1)
  rw [← hx] at p1
  obtain ⟨ka0, ka20, ka21, ka22⟩ := rq_at x q f l c p i
  have R1 := Lib.hid (hr.below b1)
  have HSZ := Lib.hid hs
  have HW := Lib.hid hw1
  have B1 := Lib.hid b1
  have P1 := Lib.hid p1
  have KA0 := Lib.hid ka0
  have KA20 := Lib.hid ka20
  have KA21 := Lib.hid ka21
  have KA22 := Lib.hid ka22
  have hok : okRest q = true := by unfold okRest; rw [show inR (q.kind - 1) 3 = true from decide_eq_true (by omega), show decide (q.name.size ≤ 200) = true from decide_eq_true (by omega), r3]; rfl
  have hS : rightB q = true := by unfold rightB; rw [show inR (q.op - 1) 4 = true from decide_eq_true (by omega), h2, if_neg (by rw [h3]; decide), hok]; rfl
  have HS := Lib.hid hS
  have HWH := Lib.hid h3
  have d0 : decide (q.op < 1) = false := decide_eq_false h0
  have d1 : decide (5 < q.op) = false := decide_eq_false h1
  have HK := Lib.hid (show 1 ≤ q.op ∧ q.op ≤ 5 by omega)
  have e0 : decide (1 ≤ q.kind) = true := decide_eq_true (by omega)
  have e1 : decide (q.kind ≤ 4) = true := decide_eq_true (by omega)
  have e2 : decide ((q.name.size : Int) ≤ 200) = true := decide_eq_true (by omega)
  have HV := Lib.hid r3
  have H2 := Lib.hid h2
  clear b1 p1 hw1 hr hs ka0 ka20 ka21 ka22 h2 h3 hS hok r3
  go_enter Try.func27, Try.ntmps27
  go_upto_region 1 with (fail)
  rw [← HW.out, ← hx]
  clear hx
  refine wp_region_held_drew (S := fun V => V.heap[x]? = some (.cells (rq q f l c p i) 51 (0, 0)) ∧ Below w1.heap.size w1 V) (by kernel_rfl) ⟨P1.out, ⟨rfl, rfl, rfl, Nat.le_refl _, fun _ _ => rfl⟩⟩ (fun hS0 => ?_)
  refine tk 0 3 (.pointer (some ⟨x, 0, none⟩)) ?_; (try simp only [s1, s2, s3]); refine tk 1 4 (.int .i64 q.op) ?_ (hv := by (intro V hV; have hc := KA0.out V hV.1; clear hV; go_simp; try rfl)); (try simp only [s1, s2, s3]); refine tk 2 5 (.bool false) ?_; (try simp only [s1, s2, s3]); refine tk 3 6 (.bool false) ?_; (try simp only [s1, s2, s3]); refine tk 4 7 (.pointer (some ⟨x, 0, none⟩)) ?_; (try simp only [s1, s2, s3]); refine tk 5 8 (.int .i64 q.op) ?_ (hv := by (intro V hV; have hc := KA0.out V hV.1; clear hV; go_simp; try rfl)); (try simp only [s1, s2, s3]); refine tk 6 9 (.bool false) ?_; (try simp only [s1, s2, s3]); refine tk 7 10 (.bool false) ?_; (try simp only [s1, s2, s3]); refine tk 8 11 (.bool false) ?_; (try simp only [s1, s2, s3]); refine tk 9 12 (.agg (rq q f l c p i)) ?_ (hv := by exact load_row_yields 51 (.tmp 1) rfl x rfl 51 (rq q f l c p i) (0, 0) _ (fun V hV => hV.1) Try.underlying51 rfl size51); (try simp only [s1, s2, s3]); refine tk 10 13 (.agg (rq q f l c p i)) ?_ (hv := by exact load_row_yields 51 (.tmp 1) rfl x rfl 51 (rq q f l c p i) (0, 0) _ (fun V hV => hV.1) Try.underlying51 rfl size51); (try simp only [s1, s2, s3])
  refine wpAnyH_ready (rs := [11]) (by kernel_rfl) (by simp) ?_
  refine AllReadyH.cons rfl (fun K hK => ?_) ?_
  · rw [if_pos (by rfl)]
    go_simp
    go_at_call 29
    refine (onlyq_any q f l c p i HK.out _ (R1.out.below hS0.2)).mono ?_
    rintro e wO ⟨f', l', c', p', i', rfl, hro, hbO⟩
    dsimp only
    refine hK.out _ _ (keepQ lw.out (by assumption) hbO) (fun hHeld => ?_)
    clear hK K; try simp only [Act.put, s1, s2, s3]
    refine wpAnyH_ready (rs := [12]) (by kernel_rfl) (by simp) ?_
    refine AllReadyH.cons rfl (fun K hK => ?_) ?_
    · rw [if_pos (by rfl)]
      go_simp
      go_at_call 30
      refine (rsamerq_any q (onlyQ q) f l c p i f' l' c' p' i' HSZ.out wO (R1.out.below hHeld.2) hro).mono ?_
      rw [onlyRB_ref q HK.out, H2.out]
      rintro e wS ⟨rfl, hbS⟩
      dsimp only
      refine hK.out _ _ (keepQ lw.out (by assumption) hbS) (fun hHeld => ?_)
      clear hK K; try simp only [Act.put, s1, s2, s3]
      refine tk 13 16 (.bool false) ?_; (try simp only [s1, s2, s3]); refine tk 14 17 (.bool false) ?_; (try simp only [s1, s2, s3])
      refine wpAnyH_done (by kernel_rfl) ?_ _
      have B3 := Lib.hid (B1.out.trans (belowLe B1.out.size hHeld.2))
      have P3 := Lib.hid hHeld.1
      have R3 := Lib.hid (R1.out.below hHeld.2)
      repeat clear hHeld
      clear hS0
      go_upto_region 3 with (fail)
      have cx := KA0.out _ P3.out
      have cx20 := KA20.out _ P3.out
      have cx21 := KA21.out _ P3.out
      have cx22 := KA22.out _ P3.out
      have dw : decide (q.op ≤ 2) = false := by have h := of_decide_eq_false HWH.out; exact decide_eq_false (by have := HK.out; omega)
      go_wp2_with (go_at_call 57; refine (in_any q.version 1099511627776 true HV.out _).mono ?_; rintro e w4 ⟨rfl, hw4⟩; have hw5 := hw4.symm; clear hw4; subst hw5)
      go_ret
      exact ⟨by rw [HS.out]; rfl, B3.out⟩
    exact AllReadyH.nil
  exact AllReadyH.nil
theorem right27_any (q : Rq) (f l c p i : Sl) (hs : q.ob.fins.length ≤ 1000000 ∧ q.ob.labels.length ≤ 1000000 ∧ q.ob.cidrs.length ≤ 1000000 ∧ q.ob.fams.length ≤ 1000000 ∧ q.ob.ips.length ≤ 1000000) (w : World) (hr : RowsR w q.ob f l c p i) :
    Calls Try.prog 27 #[.agg (rq q f l c p i)] w fun e w' => e = .returned (.bool (rightB q)) ∧ Below w.heap.size w w' := by
  by_cases h0 : q.op < 1
  · exact right27_0 q f l c p i hs h0 w hr
  by_cases h1 : 5 < q.op
  · exact right27_1 q f l c p i hs h0 h1 w hr
  cases h2 : onlyRB q
  · exact right27_2 q f l c p i hs h0 h1 h2 w hr
  cases h3 : wholeB q.op
  rotate_left
  · exact right27_w q f l c p i hs h0 h1 h2 h3 w hr
  by_cases r0 : 1 ≤ q.kind
  rotate_left
  · exact right27_r0 q f l c p i hs h0 h1 h2 h3 r0 w hr
  by_cases r1 : q.kind ≤ 4
  rotate_left
  · exact right27_r1 q f l c p i hs h0 h1 h2 h3 r0 r1 w hr
  by_cases r2 : q.name.size ≤ 200
  rotate_left
  · exact right27_r2 q f l c p i hs h0 h1 h2 h3 r0 r1 r2 w hr
  cases r3 : inR q.version 1099511627776
  · exact right27_r3 q f l c p i hs h0 h1 h2 h3 r0 r1 r2 r3 w hr
  exact right27_r5 q f l c p i hs h0 h1 h2 h3 r0 r1 r2 r3 w hr
end Go.Proofs.Ytolndeolehkjoaa
