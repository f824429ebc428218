/- Requests: their bytes. -/
import Derived.Test.YtolndeolehkjoaaWq4c
namespace Go.Proofs.Ytolndeolehkjoaa
set_option linter.unusedVariables false
set_option linter.unusedSimpArgs false
open Go.RowKit CodP
def bytesRq (q : Rq) : ByteArray := if q.op = 1 ∨ q.op = 2 then bB q.op ++ bytesS q.ob else if q.op = 3 then bB q.op ++ bB q.kind ++ bT q.name ++ num8 q.version.toNat else if q.op = 4 then bB q.op ++ bB q.kind ++ bT q.name else bB q.op ++ bB q.kind
structure RightF (q : Rq) : Prop where
  op : 1 ≤ q.op ∧ q.op ≤ 5
  only : onlyRB q = true
  ob : q.op ≤ 2 → CodP.shape q.ob = true
  kind : 3 ≤ q.op → 1 ≤ q.kind ∧ q.kind ≤ 4
  name : 3 ≤ q.op → q.name.size ≤ 200
  version : 3 ≤ q.op → 0 ≤ q.version ∧ q.version ≤ 1099511627776
theorem rightF {q : Rq} (h : rightB q = true) : RightF q := by
  unfold rightB at h
  simp only [Bool.and_eq_true] at h
  obtain ⟨h1, h2, h3⟩ := h
  have hop := of_decide_eq_true h1
  have hop2 : 1 ≤ q.op ∧ q.op ≤ 5 := by omega
  by_cases hw : q.op = 1 ∨ q.op = 2
  · have hwb : wholeB q.op = true := decide_eq_true hw
    rw [if_pos hwb] at h3
    exact ⟨hop2, h2, fun _ => h3, fun h => by omega, fun h => by omega, fun h => by omega⟩
  · have hwb : wholeB q.op = false := decide_eq_false hw
    rw [if_neg (by rw [hwb]; decide)] at h3
    unfold okRest at h3
    simp only [Bool.and_eq_true] at h3
    obtain ⟨r1, r2, r3⟩ := h3
    have := of_decide_eq_true r1
    have r2' := of_decide_eq_true r2
    have := of_decide_eq_true r3
    exact ⟨hop2, h2, fun h => by omega, fun _ => by omega, fun _ => r2', fun _ => by omega⟩
theorem rightF_len {q : Rq} (h : RightF q) : q.ob.fins.length ≤ 1000000 ∧ q.ob.labels.length ≤ 1000000 ∧ q.ob.cidrs.length ≤ 1000000 ∧ q.ob.fams.length ≤ 1000000 ∧ q.ob.ips.length ≤ 1000000 := by
  by_cases hw : q.op ≤ 2
  · exact shape_len q.ob (h.ob hw)
  · have ho := h.only
    unfold onlyRB sameRq at ho
    simp only [Bool.and_eq_true] at ho
    have h5 := ho.2.2.2.2
    have hb : (bareQ q).ob = q.ob := by
      have := h.op
      unfold bareQ
      rw [if_neg (by omega)]
      split
      · rfl
      split
      · rfl
      · rfl
    rw [hb] at h5
    unfold sameB at h5
    simp only [Bool.and_eq_true, decide_eq_true_eq] at h5
    obtain ⟨_, e1, e2, e3, e4, e5⟩ := h5
    have l1 := congrArg List.length e1; have l2 := congrArg List.length e2; have l3 := congrArg List.length e3; have l4 := congrArg List.length e4; have l5 := congrArg List.length e5
    have z : zeroRq.ob = zeroOb := rfl
    rw [z] at l1 l2 l3 l4 l5
    have zz := zero_len
    omega
theorem conv2 (a b : Int) (V : World) : (convert 67 9 (.slice (some ⟨V.heap.size, 0, none⟩) 2 2)).run Try.prog (V.alloc (.cells #[.int .u8 a, .int .u8 b] 5)) = .ok (.string (bB a ++ bB b)) (V.alloc (.cells #[.int .u8 a, .int .u8 b] 5)) := by
  have h := G.heap_new V (.cells #[.int .u8 a, .int .u8 b] 5)
  have := run_convert_bytes_arg (P := Try.prog) (w := V.alloc (.cells #[.int .u8 a, .int .u8 b] 5)) 67 5 Try.underlying67 Try.underlying5 V.heap.size 0 2 2 [a, b] rfl (fun i hi => by
    rcases (by omega : i = 0 ∨ i = 1) with rfl | rfl <;> (simp only [World.cell?, h]; rfl)) 9 Try.underlying9
  rw [this]
  congr 2
set_option maxRecDepth 100000 in
set_option maxHeartbeats 4000000 in
theorem rqb_1 (q : Rq) (f l c p i : Sl) (hf : RightF q) (hk : q.op = 1) (w : World) (hr : RowsR w q.ob f l c p i) :
    Calls Try.prog 32 #[.agg (rq q f l c p i)] w fun e w' => e = .returned (.string (bytesRq q)) ∧ Below w.heap.size w w' := by
  obtain ⟨w1, hw1, b1, p1⟩ := one_rq w (rq q f l c p i)
  obtain ⟨x, hx⟩ : ∃ x, x = w.heap.size := ⟨_, rfl⟩
  rw [← hx] at p1
  have ka0 : ∀ V : World, V.heap[x]? = some (.cells (rq q f l c p i) 51 (0, 0)) → V.cell? ⟨x, 0, none⟩ = some (.int .i64 1) := fun V hV => by simp [World.cell?, hV, rq, hk]
  have ka20 : ∀ V : World, V.heap[x]? = some (.cells (rq q f l c p i) 51 (0, 0)) → V.cell? ⟨x, 20, none⟩ = some (.int .i64 q.kind) := fun V hV => by simp [World.cell?, hV, rq]
  have ka21 : ∀ V : World, V.heap[x]? = some (.cells (rq q f l c p i) 51 (0, 0)) → V.cell? ⟨x, 21, none⟩ = some (.string q.name) := fun V hV => by simp [World.cell?, hV, rq]
  have ka22 : ∀ V : World, V.heap[x]? = some (.cells (rq q f l c p i) 51 (0, 0)) → V.cell? ⟨x, 22, none⟩ = some (.int .i64 q.version) := fun V hV => by simp [World.cell?, hV, rq]
  have R1 := Lib.hid (hr.below b1)
  have HF := Lib.hid hf
  have HW := Lib.hid hw1
  have B1 := Lib.hid b1
  have P1 := Lib.hid p1
  have KA0 := Lib.hid ka0
  have KA20 := Lib.hid ka20
  have KA21 := Lib.hid ka21
  have KA22 := Lib.hid ka22
  have hbq : bytesRq q = bB 1 ++ bytesS q.ob := by unfold bytesRq; rw [if_pos (by omega), hk]
  have HBQ := Lib.hid hbq
  clear hbq
  have z0 : (bB 1).size = 1 := bB_size _
  have z1 := bytesS_le q.ob (hf.ob (by omega))
  have HSH := Lib.hid (hf.ob (by omega))
  obtain ⟨w2, hw2⟩ : ∃ w2, w2 = w1.alloc (.cells #[.int .u8 1] 5) := ⟨_, rfl⟩
  have hb2 : Below w1.heap.size w1 w2 := by rw [hw2]; exact bel_alloc _ _
  have hcv : (convert 67 9 (.slice (some ⟨w1.heap.size, 0, none⟩) 1 1)).run Try.prog w2 = .ok (.string (bB 1)) w2 := by rw [hw2]; exact conv1 1 _ _ (cell_new1 w1 1)
  have hcw := hcv
  rw [hw2] at hcw
  have HW2 := Lib.hid hw2
  have B2 := Lib.hid (B1.out.trans (belowLe B1.out.size hb2))
  have P2 := Lib.hid ((hb2.block x (Array.getElem?_eq_some_iff.1 P1.out).1).trans P1.out)
  have R2 := Lib.hid (R1.out.below hb2)
  clear hb2 hcv hw2
  clear b1 p1 hw1 hr hf ka0 ka20 ka21 ka22 hk
  go_enter Try.func32, Try.ntmps32
  go_upto_region 1 with (fail)
  rw [← HW.out, ← hx]
  clear hx
  have c0 := KA0.out _ P1.out
  have c20 := KA20.out _ P1.out
  have c21 := KA21.out _ P1.out
  have c22 := KA22.out _ P1.out
  go_upto_region 2 with (fail)
  rw [← HW2.out]
  clear hcw c0 c20 c21 c22
  have c0 := KA0.out _ P2.out
  have c20 := KA20.out _ P2.out
  have c21 := KA21.out _ P2.out
  have c22 := KA22.out _ P2.out
  go_upto_region 3 with (fail)
  iterate 7 (first | go_values | go_skip | go_guarded | go_step)
  refine wpList_load_elem rfl (.tmp 13) rfl x 1 rfl ⟨q.ob, f, l, c, p, i⟩ (rq_mid P2.out) ?_
  go_wp2_with (go_at_call 48; refine (rbytes_any q.ob f l c p i (fits_of q.ob HSH.out) _ R2.out).mono ?_; rintro e w3 ⟨rfl, hb3⟩)
  go_ret
  exact ⟨by rw [HBQ.out]; rfl, B2.out.trans (belowLe B2.out.size hb3)⟩
set_option maxRecDepth 100000 in
set_option maxHeartbeats 4000000 in
theorem pkr_1 (q : Rq) (f l c p i : Sl) (hf : RightF q) (hrb : rightB q = true) (hk : q.op = 1) (w : World) (hr : RowsR w q.ob f l c p i) :
    Calls Try.prog 25 #[.agg (rq q f l c p i)] w fun e w' => e = .returned (.tuple #[.string (bytesRq q), .int .i64 0]) ∧ Below w.heap.size w w' := by
  obtain ⟨w1, hw1, b1, p1⟩ := one_rq w (rq q f l c p i)
  obtain ⟨x, hx⟩ : ∃ x, x = w.heap.size := ⟨_, rfl⟩
  rw [← hx] at p1
  have ka0 : ∀ V : World, V.heap[x]? = some (.cells (rq q f l c p i) 51 (0, 0)) → V.cell? ⟨x, 0, none⟩ = some (.int .i64 1) := fun V hV => by simp [World.cell?, hV, rq, hk]
  have ka20 : ∀ V : World, V.heap[x]? = some (.cells (rq q f l c p i) 51 (0, 0)) → V.cell? ⟨x, 20, none⟩ = some (.int .i64 q.kind) := fun V hV => by simp [World.cell?, hV, rq]
  have ka21 : ∀ V : World, V.heap[x]? = some (.cells (rq q f l c p i) 51 (0, 0)) → V.cell? ⟨x, 21, none⟩ = some (.string q.name) := fun V hV => by simp [World.cell?, hV, rq]
  have ka22 : ∀ V : World, V.heap[x]? = some (.cells (rq q f l c p i) 51 (0, 0)) → V.cell? ⟨x, 22, none⟩ = some (.int .i64 q.version) := fun V hV => by simp [World.cell?, hV, rq]
  have R1 := Lib.hid (hr.below b1)
  have HF := Lib.hid hf
  have HW := Lib.hid hw1
  have B1 := Lib.hid b1
  have P1 := Lib.hid p1
  have KA0 := Lib.hid ka0
  have KA20 := Lib.hid ka20
  have KA21 := Lib.hid ka21
  have KA22 := Lib.hid ka22
  have hbq : bytesRq q = bB 1 ++ bytesS q.ob := by unfold bytesRq; rw [if_pos (by omega), hk]
  have HBQ := Lib.hid hbq
  clear hbq
  have z0 : (bB 1).size = 1 := bB_size _
  have z1 := bytesS_le q.ob (hf.ob (by omega))
  have HSH := Lib.hid (hf.ob (by omega))
  have hwh : wholeB 1 = true := by decide
  have HWH := Lib.hid hwh
  have HRB := Lib.hid hrb
  clear hwh hrb
  clear b1 p1 hw1 hr hf ka0 ka20 ka21 ka22 hk
  go_enter Try.func25, Try.ntmps25
  go_upto_region 1 with (fail)
  rw [← HW.out, ← hx]
  clear hx
  go_wp2_with (refine wpList_load_row rfl 51 (.tmp 1) rfl x rfl 51 _ (0, 0) _ P1.out Try.underlying51 rfl size51 ?_)
  refine (right26_any q f l c p i (rightF_len HF.out) w1 R1.out).mono ?_
  rw [HRB.out]
  rintro e w2 ⟨rfl, hb2⟩
  have B2 := Lib.hid (B1.out.trans (belowLe B1.out.size hb2))
  have P2 := Lib.hid ((hb2.block x (Array.getElem?_eq_some_iff.1 P1.out).1).trans P1.out)
  have R2 := Lib.hid (R1.out.below hb2)
  clear hb2
  go_upto_region 3 with (fail)
  have c0 := KA0.out _ P2.out
  have c20 := KA20.out _ P2.out
  have c21 := KA21.out _ P2.out
  have c22 := KA22.out _ P2.out
  go_upto_region 4 with (go_at_call 55; refine (whole_any 1 true HWH.out _).mono ?_; rintro e w4 ⟨rfl, hw4⟩; have hw5 := hw4.symm; clear hw4; subst hw5)
  clear c0 c20 c21 c22
  have hps : packS q.ob = (bytesS q.ob, 0) := by unfold packS; rw [HSH.out]; rfl
  have C1 := Lib.hid (pack_any q.ob f l c p i (rightF_len HF.out) w2 R2.out)
  rw [hps] at C1
  clear hps
  iterate 4 (first | go_values | go_skip | go_guarded | go_step)
  refine wpList_load_elem rfl (.tmp 14) rfl x 1 rfl ⟨q.ob, f, l, c, p, i⟩ (rq_mid P2.out) ?_
  go_wp2_with (fail)
  refine C1.out.mono ?_
  rintro e w3 ⟨rfl, hb3⟩
  have B3 := Lib.hid (B2.out.trans (belowLe B2.out.size hb3))
  have P3 := Lib.hid ((hb3.block x (Array.getElem?_eq_some_iff.1 P2.out).1).trans P2.out)
  clear hb3
  go_upto_region 5 with (fail)
  have c0 := KA0.out _ P3.out
  have c20 := KA20.out _ P3.out
  have c21 := KA21.out _ P3.out
  have c22 := KA22.out _ P3.out
  have hcw := conv1 1 _ _ (cell_new1 w3 1)
  go_wp2
  go_ret2
  exact ⟨by rw [HBQ.out]; rfl, B3.out.trans (belowLe B3.out.size (bel_alloc _ _))⟩
set_option maxRecDepth 100000 in
set_option maxHeartbeats 4000000 in
theorem rqb_2 (q : Rq) (f l c p i : Sl) (hf : RightF q) (hk : q.op = 2) (w : World) (hr : RowsR w q.ob f l c p i) :
    Calls Try.prog 32 #[.agg (rq q f l c p i)] w fun e w' => e = .returned (.string (bytesRq q)) ∧ Below w.heap.size w w' := by
  obtain ⟨w1, hw1, b1, p1⟩ := one_rq w (rq q f l c p i)
  obtain ⟨x, hx⟩ : ∃ x, x = w.heap.size := ⟨_, rfl⟩
  rw [← hx] at p1
  have ka0 : ∀ V : World, V.heap[x]? = some (.cells (rq q f l c p i) 51 (0, 0)) → V.cell? ⟨x, 0, none⟩ = some (.int .i64 2) := fun V hV => by simp [World.cell?, hV, rq, hk]
  have ka20 : ∀ V : World, V.heap[x]? = some (.cells (rq q f l c p i) 51 (0, 0)) → V.cell? ⟨x, 20, none⟩ = some (.int .i64 q.kind) := fun V hV => by simp [World.cell?, hV, rq]
  have ka21 : ∀ V : World, V.heap[x]? = some (.cells (rq q f l c p i) 51 (0, 0)) → V.cell? ⟨x, 21, none⟩ = some (.string q.name) := fun V hV => by simp [World.cell?, hV, rq]
  have ka22 : ∀ V : World, V.heap[x]? = some (.cells (rq q f l c p i) 51 (0, 0)) → V.cell? ⟨x, 22, none⟩ = some (.int .i64 q.version) := fun V hV => by simp [World.cell?, hV, rq]
  have R1 := Lib.hid (hr.below b1)
  have HF := Lib.hid hf
  have HW := Lib.hid hw1
  have B1 := Lib.hid b1
  have P1 := Lib.hid p1
  have KA0 := Lib.hid ka0
  have KA20 := Lib.hid ka20
  have KA21 := Lib.hid ka21
  have KA22 := Lib.hid ka22
  have hbq : bytesRq q = bB 2 ++ bytesS q.ob := by unfold bytesRq; rw [if_pos (by omega), hk]
  have HBQ := Lib.hid hbq
  clear hbq
  have z0 : (bB 2).size = 1 := bB_size _
  have z1 := bytesS_le q.ob (hf.ob (by omega))
  have HSH := Lib.hid (hf.ob (by omega))
  obtain ⟨w2, hw2⟩ : ∃ w2, w2 = w1.alloc (.cells #[.int .u8 2] 5) := ⟨_, rfl⟩
  have hb2 : Below w1.heap.size w1 w2 := by rw [hw2]; exact bel_alloc _ _
  have hcv : (convert 67 9 (.slice (some ⟨w1.heap.size, 0, none⟩) 1 1)).run Try.prog w2 = .ok (.string (bB 2)) w2 := by rw [hw2]; exact conv1 2 _ _ (cell_new1 w1 2)
  have hcw := hcv
  rw [hw2] at hcw
  have HW2 := Lib.hid hw2
  have B2 := Lib.hid (B1.out.trans (belowLe B1.out.size hb2))
  have P2 := Lib.hid ((hb2.block x (Array.getElem?_eq_some_iff.1 P1.out).1).trans P1.out)
  have R2 := Lib.hid (R1.out.below hb2)
  clear hb2 hcv hw2
  clear b1 p1 hw1 hr hf ka0 ka20 ka21 ka22 hk
  go_enter Try.func32, Try.ntmps32
  go_upto_region 1 with (fail)
  rw [← HW.out, ← hx]
  clear hx
  have c0 := KA0.out _ P1.out
  have c20 := KA20.out _ P1.out
  have c21 := KA21.out _ P1.out
  have c22 := KA22.out _ P1.out
  go_upto_region 2 with (fail)
  rw [← HW2.out]
  clear hcw c0 c20 c21 c22
  have c0 := KA0.out _ P2.out
  have c20 := KA20.out _ P2.out
  have c21 := KA21.out _ P2.out
  have c22 := KA22.out _ P2.out
  go_upto_region 3 with (fail)
  iterate 7 (first | go_values | go_skip | go_guarded | go_step)
  refine wpList_load_elem rfl (.tmp 13) rfl x 1 rfl ⟨q.ob, f, l, c, p, i⟩ (rq_mid P2.out) ?_
  go_wp2_with (go_at_call 48; refine (rbytes_any q.ob f l c p i (fits_of q.ob HSH.out) _ R2.out).mono ?_; rintro e w3 ⟨rfl, hb3⟩)
  go_ret
  exact ⟨by rw [HBQ.out]; rfl, B2.out.trans (belowLe B2.out.size hb3)⟩
set_option maxRecDepth 100000 in
set_option maxHeartbeats 4000000 in
theorem pkr_2 (q : Rq) (f l c p i : Sl) (hf : RightF q) (hrb : rightB q = true) (hk : q.op = 2) (w : World) (hr : RowsR w q.ob f l c p i) :
    Calls Try.prog 25 #[.agg (rq q f l c p i)] w fun e w' => e = .returned (.tuple #[.string (bytesRq q), .int .i64 0]) ∧ Below w.heap.size w w' := by
  obtain ⟨w1, hw1, b1, p1⟩ := one_rq w (rq q f l c p i)
  obtain ⟨x, hx⟩ : ∃ x, x = w.heap.size := ⟨_, rfl⟩
  rw [← hx] at p1
  have ka0 : ∀ V : World, V.heap[x]? = some (.cells (rq q f l c p i) 51 (0, 0)) → V.cell? ⟨x, 0, none⟩ = some (.int .i64 2) := fun V hV => by simp [World.cell?, hV, rq, hk]
  have ka20 : ∀ V : World, V.heap[x]? = some (.cells (rq q f l c p i) 51 (0, 0)) → V.cell? ⟨x, 20, none⟩ = some (.int .i64 q.kind) := fun V hV => by simp [World.cell?, hV, rq]
  have ka21 : ∀ V : World, V.heap[x]? = some (.cells (rq q f l c p i) 51 (0, 0)) → V.cell? ⟨x, 21, none⟩ = some (.string q.name) := fun V hV => by simp [World.cell?, hV, rq]
  have ka22 : ∀ V : World, V.heap[x]? = some (.cells (rq q f l c p i) 51 (0, 0)) → V.cell? ⟨x, 22, none⟩ = some (.int .i64 q.version) := fun V hV => by simp [World.cell?, hV, rq]
  have R1 := Lib.hid (hr.below b1)
  have HF := Lib.hid hf
  have HW := Lib.hid hw1
  have B1 := Lib.hid b1
  have P1 := Lib.hid p1
  have KA0 := Lib.hid ka0
  have KA20 := Lib.hid ka20
  have KA21 := Lib.hid ka21
  have KA22 := Lib.hid ka22
  have hbq : bytesRq q = bB 2 ++ bytesS q.ob := by unfold bytesRq; rw [if_pos (by omega), hk]
  have HBQ := Lib.hid hbq
  clear hbq
  have z0 : (bB 2).size = 1 := bB_size _
  have z1 := bytesS_le q.ob (hf.ob (by omega))
  have HSH := Lib.hid (hf.ob (by omega))
  have hwh : wholeB 2 = true := by decide
  have HWH := Lib.hid hwh
  have HRB := Lib.hid hrb
  clear hwh hrb
  clear b1 p1 hw1 hr hf ka0 ka20 ka21 ka22 hk
  go_enter Try.func25, Try.ntmps25
  go_upto_region 1 with (fail)
  rw [← HW.out, ← hx]
  clear hx
  go_wp2_with (refine wpList_load_row rfl 51 (.tmp 1) rfl x rfl 51 _ (0, 0) _ P1.out Try.underlying51 rfl size51 ?_)
  refine (right26_any q f l c p i (rightF_len HF.out) w1 R1.out).mono ?_
  rw [HRB.out]
  rintro e w2 ⟨rfl, hb2⟩
  have B2 := Lib.hid (B1.out.trans (belowLe B1.out.size hb2))
  have P2 := Lib.hid ((hb2.block x (Array.getElem?_eq_some_iff.1 P1.out).1).trans P1.out)
  have R2 := Lib.hid (R1.out.below hb2)
  clear hb2
  go_upto_region 3 with (fail)
  have c0 := KA0.out _ P2.out
  have c20 := KA20.out _ P2.out
  have c21 := KA21.out _ P2.out
  have c22 := KA22.out _ P2.out
  go_upto_region 4 with (go_at_call 55; refine (whole_any 2 true HWH.out _).mono ?_; rintro e w4 ⟨rfl, hw4⟩; have hw5 := hw4.symm; clear hw4; subst hw5)
  clear c0 c20 c21 c22
  have hps : packS q.ob = (bytesS q.ob, 0) := by unfold packS; rw [HSH.out]; rfl
  have C1 := Lib.hid (pack_any q.ob f l c p i (rightF_len HF.out) w2 R2.out)
  rw [hps] at C1
  clear hps
  iterate 4 (first | go_values | go_skip | go_guarded | go_step)
  refine wpList_load_elem rfl (.tmp 14) rfl x 1 rfl ⟨q.ob, f, l, c, p, i⟩ (rq_mid P2.out) ?_
  go_wp2_with (fail)
  refine C1.out.mono ?_
  rintro e w3 ⟨rfl, hb3⟩
  have B3 := Lib.hid (B2.out.trans (belowLe B2.out.size hb3))
  have P3 := Lib.hid ((hb3.block x (Array.getElem?_eq_some_iff.1 P2.out).1).trans P2.out)
  clear hb3
  go_upto_region 5 with (fail)
  have c0 := KA0.out _ P3.out
  have c20 := KA20.out _ P3.out
  have c21 := KA21.out _ P3.out
  have c22 := KA22.out _ P3.out
  have hcw := conv1 2 _ _ (cell_new1 w3 2)
  go_wp2
  go_ret2
  exact ⟨by rw [HBQ.out]; rfl, B3.out.trans (belowLe B3.out.size (bel_alloc _ _))⟩
set_option maxRecDepth 100000 in
set_option maxHeartbeats 4000000 in
theorem rqb_3 (q : Rq) (f l c p i : Sl) (hf : RightF q) (hk : q.op = 3) (w : World) (hr : RowsR w q.ob f l c p i) :
    Calls Try.prog 32 #[.agg (rq q f l c p i)] w fun e w' => e = .returned (.string (bytesRq q)) ∧ Below w.heap.size w w' := by
  obtain ⟨w1, hw1, b1, p1⟩ := one_rq w (rq q f l c p i)
  obtain ⟨x, hx⟩ : ∃ x, x = w.heap.size := ⟨_, rfl⟩
  rw [← hx] at p1
  have ka0 : ∀ V : World, V.heap[x]? = some (.cells (rq q f l c p i) 51 (0, 0)) → V.cell? ⟨x, 0, none⟩ = some (.int .i64 3) := fun V hV => by simp [World.cell?, hV, rq, hk]
  have ka20 : ∀ V : World, V.heap[x]? = some (.cells (rq q f l c p i) 51 (0, 0)) → V.cell? ⟨x, 20, none⟩ = some (.int .i64 q.kind) := fun V hV => by simp [World.cell?, hV, rq]
  have ka21 : ∀ V : World, V.heap[x]? = some (.cells (rq q f l c p i) 51 (0, 0)) → V.cell? ⟨x, 21, none⟩ = some (.string q.name) := fun V hV => by simp [World.cell?, hV, rq]
  have ka22 : ∀ V : World, V.heap[x]? = some (.cells (rq q f l c p i) 51 (0, 0)) → V.cell? ⟨x, 22, none⟩ = some (.int .i64 q.version) := fun V hV => by simp [World.cell?, hV, rq]
  have R1 := Lib.hid (hr.below b1)
  have HF := Lib.hid hf
  have HW := Lib.hid hw1
  have B1 := Lib.hid b1
  have P1 := Lib.hid p1
  have KA0 := Lib.hid ka0
  have KA20 := Lib.hid ka20
  have KA21 := Lib.hid ka21
  have KA22 := Lib.hid ka22
  have hbq : bytesRq q = bB 3 ++ bB q.kind ++ bT q.name ++ num8 q.version.toNat := by unfold bytesRq; rw [if_neg (by omega), if_pos hk, hk]
  have HBQ := Lib.hid hbq
  clear hbq
  have z0 : (bB 3).size = 1 := bB_size _
  have g1 := (hf.kind (by omega)).1
  have g2 := (hf.kind (by omega)).2
  have z1 : (bB q.kind).size = 1 := bB_size _
  have z2 : (bT q.name).size ≤ 201 := by rw [bT_size]; have := hf.name (by omega); omega
  have z3 : (num8 q.version.toNat).size = 8 := num8_size _
  have z4 : (bB 3 ++ bB q.kind).size = 2 := by rw [ByteArray.size_append, z0, z1]
  have z5 : (bB 3 ++ bB q.kind ++ bT q.name).size ≤ 203 := by rw [ByteArray.size_append]; omega
  have hnm := hf.name (by omega)
  have hv1 := (hf.version (by omega)).1
  have hv2 := (hf.version (by omega)).2
  have z6 : (bB (q.name.size : Int)).size = 1 := bB_size _
  have z7 : (bB (q.name.size : Int) ++ q.name).size ≤ 201 := by rw [ByteArray.size_append]; omega
  obtain ⟨w2, hw2⟩ : ∃ w2, w2 = w1.alloc (.cells #[.int .u8 3] 5) := ⟨_, rfl⟩
  have hb2 : Below w1.heap.size w1 w2 := by rw [hw2]; exact bel_alloc _ _
  have hcv : (convert 67 9 (.slice (some ⟨w1.heap.size, 0, none⟩) 1 1)).run Try.prog w2 = .ok (.string (bB 3)) w2 := by rw [hw2]; exact conv1 3 _ _ (cell_new1 w1 3)
  have hcw := hcv
  rw [hw2] at hcw
  have HW2 := Lib.hid hw2
  have B2 := Lib.hid (B1.out.trans (belowLe B1.out.size hb2))
  have P2 := Lib.hid ((hb2.block x (Array.getElem?_eq_some_iff.1 P1.out).1).trans P1.out)
  have R2 := Lib.hid (R1.out.below hb2)
  clear hb2 hcv hw2
  clear b1 p1 hw1 hr hf ka0 ka20 ka21 ka22 hk
  go_enter Try.func32, Try.ntmps32
  go_upto_region 1 with (fail)
  rw [← HW.out, ← hx]
  clear hx
  have c0 := KA0.out _ P1.out
  have c20 := KA20.out _ P1.out
  have c21 := KA21.out _ P1.out
  have c22 := KA22.out _ P1.out
  go_upto_region 2 with (fail)
  rw [← HW2.out]
  clear hcw c0 c20 c21 c22
  have c0 := KA0.out _ P2.out
  have c20 := KA20.out _ P2.out
  have c21 := KA21.out _ P2.out
  have c22 := KA22.out _ P2.out
  obtain ⟨w3, hw3⟩ : ∃ w3, w3 = w2.alloc (.cells #[.int .u8 q.kind] 5) := ⟨_, rfl⟩
  have hb3 : Below w2.heap.size w2 w3 := by rw [hw3]; exact bel_alloc _ _
  have hcw : (convert 67 9 (.slice (some ⟨w2.heap.size, 0, none⟩) 1 1)).run Try.prog (w2.alloc (.cells #[.int .u8 q.kind] 5)) = .ok (.string (bB q.kind)) (w2.alloc (.cells #[.int .u8 q.kind] 5)) := conv1 q.kind _ _ (cell_new1 w2 q.kind)
  have HW3 := Lib.hid hw3
  have B3 := Lib.hid (B2.out.trans (belowLe B2.out.size hb3))
  have P3 := Lib.hid ((hb3.block x (Array.getElem?_eq_some_iff.1 P2.out).1).trans P2.out)
  clear hb3 hw3
  go_upto_region 5 with (fail)
  rw [← HW3.out]
  clear hcw c0 c20 c21 c22
  have c0 := KA0.out _ P3.out
  have c20 := KA20.out _ P3.out
  have c21 := KA21.out _ P3.out
  have c22 := KA22.out _ P3.out
  go_upto_region 7 with (go_at_call 59; refine (rtext_any q.name hnm _).mono ?_; rintro e w4 ⟨rfl, hb4⟩)
  have B4 := Lib.hid (B3.out.trans (belowLe B3.out.size hb4))
  have P4 := Lib.hid ((hb4.block x (Array.getElem?_eq_some_iff.1 P3.out).1).trans P3.out)
  clear hb4 c0 c20 c21 c22
  have c0 := KA0.out _ P4.out
  have c20 := KA20.out _ P4.out
  have c21 := KA21.out _ P4.out
  have c22 := KA22.out _ P4.out
  go_wp2_with (go_at_call 14; refine (rnumI_any q.version hv1 hv2 _).mono ?_; rintro e w5 ⟨rfl, hb5⟩)
  go_ret
  exact ⟨by rw [HBQ.out]; rfl, B4.out.trans (belowLe B4.out.size hb5)⟩
set_option maxRecDepth 100000 in
set_option maxHeartbeats 4000000 in
theorem pkr_3 (q : Rq) (f l c p i : Sl) (hf : RightF q) (hrb : rightB q = true) (hk : q.op = 3) (w : World) (hr : RowsR w q.ob f l c p i) :
    Calls Try.prog 25 #[.agg (rq q f l c p i)] w fun e w' => e = .returned (.tuple #[.string (bytesRq q), .int .i64 0]) ∧ Below w.heap.size w w' := by
  obtain ⟨w1, hw1, b1, p1⟩ := one_rq w (rq q f l c p i)
  obtain ⟨x, hx⟩ : ∃ x, x = w.heap.size := ⟨_, rfl⟩
  rw [← hx] at p1
  have ka0 : ∀ V : World, V.heap[x]? = some (.cells (rq q f l c p i) 51 (0, 0)) → V.cell? ⟨x, 0, none⟩ = some (.int .i64 3) := fun V hV => by simp [World.cell?, hV, rq, hk]
  have ka20 : ∀ V : World, V.heap[x]? = some (.cells (rq q f l c p i) 51 (0, 0)) → V.cell? ⟨x, 20, none⟩ = some (.int .i64 q.kind) := fun V hV => by simp [World.cell?, hV, rq]
  have ka21 : ∀ V : World, V.heap[x]? = some (.cells (rq q f l c p i) 51 (0, 0)) → V.cell? ⟨x, 21, none⟩ = some (.string q.name) := fun V hV => by simp [World.cell?, hV, rq]
  have ka22 : ∀ V : World, V.heap[x]? = some (.cells (rq q f l c p i) 51 (0, 0)) → V.cell? ⟨x, 22, none⟩ = some (.int .i64 q.version) := fun V hV => by simp [World.cell?, hV, rq]
  have R1 := Lib.hid (hr.below b1)
  have HF := Lib.hid hf
  have HW := Lib.hid hw1
  have B1 := Lib.hid b1
  have P1 := Lib.hid p1
  have KA0 := Lib.hid ka0
  have KA20 := Lib.hid ka20
  have KA21 := Lib.hid ka21
  have KA22 := Lib.hid ka22
  have hbq : bytesRq q = bB 3 ++ bB q.kind ++ bT q.name ++ num8 q.version.toNat := by unfold bytesRq; rw [if_neg (by omega), if_pos hk, hk]
  have HBQ := Lib.hid hbq
  clear hbq
  have z0 : (bB 3).size = 1 := bB_size _
  have g1 := (hf.kind (by omega)).1
  have g2 := (hf.kind (by omega)).2
  have z1 : (bB q.kind).size = 1 := bB_size _
  have z2 : (bT q.name).size ≤ 201 := by rw [bT_size]; have := hf.name (by omega); omega
  have z3 : (num8 q.version.toNat).size = 8 := num8_size _
  have z4 : (bB 3 ++ bB q.kind).size = 2 := by rw [ByteArray.size_append, z0, z1]
  have z5 : (bB 3 ++ bB q.kind ++ bT q.name).size ≤ 203 := by rw [ByteArray.size_append]; omega
  have hnm := hf.name (by omega)
  have hv1 := (hf.version (by omega)).1
  have hv2 := (hf.version (by omega)).2
  have z6 : (bB (q.name.size : Int)).size = 1 := bB_size _
  have z7 : (bB (q.name.size : Int) ++ q.name).size ≤ 201 := by rw [ByteArray.size_append]; omega
  have hwh : wholeB 3 = false := by decide
  have HWH := Lib.hid hwh
  have HRB := Lib.hid hrb
  clear hwh hrb
  clear b1 p1 hw1 hr hf ka0 ka20 ka21 ka22 hk
  go_enter Try.func25, Try.ntmps25
  go_upto_region 1 with (fail)
  rw [← HW.out, ← hx]
  clear hx
  go_wp2_with (refine wpList_load_row rfl 51 (.tmp 1) rfl x rfl 51 _ (0, 0) _ P1.out Try.underlying51 rfl size51 ?_)
  refine (right26_any q f l c p i (rightF_len HF.out) w1 R1.out).mono ?_
  rw [HRB.out]
  rintro e w2 ⟨rfl, hb2⟩
  have B2 := Lib.hid (B1.out.trans (belowLe B1.out.size hb2))
  have P2 := Lib.hid ((hb2.block x (Array.getElem?_eq_some_iff.1 P1.out).1).trans P1.out)
  have R2 := Lib.hid (R1.out.below hb2)
  clear hb2
  go_upto_region 3 with (fail)
  have c0 := KA0.out _ P2.out
  have c20 := KA20.out _ P2.out
  have c21 := KA21.out _ P2.out
  have c22 := KA22.out _ P2.out
  go_upto_region 6 with (go_at_call 55; refine (whole_any 3 false HWH.out _).mono ?_; rintro e w4 ⟨rfl, hw4⟩; have hw5 := hw4.symm; clear hw4; subst hw5)
  obtain ⟨w3, hw3⟩ : ∃ w3, w3 = w2.alloc (.cells #[.int .u8 3, .int .u8 q.kind] 5) := ⟨_, rfl⟩
  have hb3 : Below w2.heap.size w2 w3 := by rw [hw3]; exact bel_alloc _ _
  have hcw := conv2 3 q.kind w2
  have HW3 := Lib.hid hw3
  have B3 := Lib.hid (B2.out.trans (belowLe B2.out.size hb3))
  have P3 := Lib.hid ((hb3.block x (Array.getElem?_eq_some_iff.1 P2.out).1).trans P2.out)
  clear hb3 hw3
  go_upto_region 7 with (fail)
  rw [← HW3.out]
  clear hcw c0 c20 c21 c22
  have c0 := KA0.out _ P3.out
  have c20 := KA20.out _ P3.out
  have c21 := KA21.out _ P3.out
  have c22 := KA22.out _ P3.out
  obtain ⟨w4, hw4⟩ : ∃ w4, w4 = w3.alloc (.cells #[.int .u8 (q.name.size : Int)] 5) := ⟨_, rfl⟩
  have hb4 : Below w3.heap.size w3 w4 := by rw [hw4]; exact bel_alloc _ _
  have hcw := conv1 (q.name.size : Int) _ _ (cell_new1 w3 (q.name.size : Int))
  have HW4 := Lib.hid hw4
  have B4 := Lib.hid (B3.out.trans (belowLe B3.out.size hb4))
  have P4 := Lib.hid ((hb4.block x (Array.getElem?_eq_some_iff.1 P3.out).1).trans P3.out)
  have d21 := G.cell_below (bel_alloc w3 (.cells #[.int .u8 (q.name.size : Int)] 5)) c21
  clear hb4 hw4
  go_upto_region 9 with (fail)
  rw [← HW4.out]
  clear d21 hcw c0 c20 c21 c22
  have c0 := KA0.out _ P4.out
  have c20 := KA20.out _ P4.out
  have c21 := KA21.out _ P4.out
  have c22 := KA22.out _ P4.out
  have z8 : (bB 3 ++ bB q.kind ++ (bB (q.name.size : Int) ++ q.name)).size ≤ 203 := by rw [ByteArray.size_append]; omega
  go_wp2_with (go_at_call 12; refine (number0_any q.version.toNat (by omega) q.version (by omega) _).mono ?_; rintro e w5 ⟨rfl, hb5⟩)
  go_ret2
  exact ⟨by rw [HBQ.out]; rfl, B4.out.trans (belowLe B4.out.size hb5)⟩
set_option maxRecDepth 100000 in
set_option maxHeartbeats 4000000 in
theorem rqb_4 (q : Rq) (f l c p i : Sl) (hf : RightF q) (hk : q.op = 4) (w : World) (hr : RowsR w q.ob f l c p i) :
    Calls Try.prog 32 #[.agg (rq q f l c p i)] w fun e w' => e = .returned (.string (bytesRq q)) ∧ Below w.heap.size w w' := by
  obtain ⟨w1, hw1, b1, p1⟩ := one_rq w (rq q f l c p i)
  obtain ⟨x, hx⟩ : ∃ x, x = w.heap.size := ⟨_, rfl⟩
  rw [← hx] at p1
  have ka0 : ∀ V : World, V.heap[x]? = some (.cells (rq q f l c p i) 51 (0, 0)) → V.cell? ⟨x, 0, none⟩ = some (.int .i64 4) := fun V hV => by simp [World.cell?, hV, rq, hk]
  have ka20 : ∀ V : World, V.heap[x]? = some (.cells (rq q f l c p i) 51 (0, 0)) → V.cell? ⟨x, 20, none⟩ = some (.int .i64 q.kind) := fun V hV => by simp [World.cell?, hV, rq]
  have ka21 : ∀ V : World, V.heap[x]? = some (.cells (rq q f l c p i) 51 (0, 0)) → V.cell? ⟨x, 21, none⟩ = some (.string q.name) := fun V hV => by simp [World.cell?, hV, rq]
  have ka22 : ∀ V : World, V.heap[x]? = some (.cells (rq q f l c p i) 51 (0, 0)) → V.cell? ⟨x, 22, none⟩ = some (.int .i64 q.version) := fun V hV => by simp [World.cell?, hV, rq]
  have R1 := Lib.hid (hr.below b1)
  have HF := Lib.hid hf
  have HW := Lib.hid hw1
  have B1 := Lib.hid b1
  have P1 := Lib.hid p1
  have KA0 := Lib.hid ka0
  have KA20 := Lib.hid ka20
  have KA21 := Lib.hid ka21
  have KA22 := Lib.hid ka22
  have hbq : bytesRq q = bB 4 ++ bB q.kind ++ bT q.name := by unfold bytesRq; rw [if_neg (by omega), if_neg (by omega), if_pos hk, hk]
  have HBQ := Lib.hid hbq
  clear hbq
  have z0 : (bB 4).size = 1 := bB_size _
  have g1 := (hf.kind (by omega)).1
  have g2 := (hf.kind (by omega)).2
  have z1 : (bB q.kind).size = 1 := bB_size _
  have z2 : (bT q.name).size ≤ 201 := by rw [bT_size]; have := hf.name (by omega); omega
  have z3 : (num8 q.version.toNat).size = 8 := num8_size _
  have z4 : (bB 4 ++ bB q.kind).size = 2 := by rw [ByteArray.size_append, z0, z1]
  have z5 : (bB 4 ++ bB q.kind ++ bT q.name).size ≤ 203 := by rw [ByteArray.size_append]; omega
  have hnm := hf.name (by omega)
  have hv1 := (hf.version (by omega)).1
  have hv2 := (hf.version (by omega)).2
  have z6 : (bB (q.name.size : Int)).size = 1 := bB_size _
  have z7 : (bB (q.name.size : Int) ++ q.name).size ≤ 201 := by rw [ByteArray.size_append]; omega
  obtain ⟨w2, hw2⟩ : ∃ w2, w2 = w1.alloc (.cells #[.int .u8 4] 5) := ⟨_, rfl⟩
  have hb2 : Below w1.heap.size w1 w2 := by rw [hw2]; exact bel_alloc _ _
  have hcv : (convert 67 9 (.slice (some ⟨w1.heap.size, 0, none⟩) 1 1)).run Try.prog w2 = .ok (.string (bB 4)) w2 := by rw [hw2]; exact conv1 4 _ _ (cell_new1 w1 4)
  have hcw := hcv
  rw [hw2] at hcw
  have HW2 := Lib.hid hw2
  have B2 := Lib.hid (B1.out.trans (belowLe B1.out.size hb2))
  have P2 := Lib.hid ((hb2.block x (Array.getElem?_eq_some_iff.1 P1.out).1).trans P1.out)
  have R2 := Lib.hid (R1.out.below hb2)
  clear hb2 hcv hw2
  clear b1 p1 hw1 hr hf ka0 ka20 ka21 ka22 hk
  go_enter Try.func32, Try.ntmps32
  go_upto_region 1 with (fail)
  rw [← HW.out, ← hx]
  clear hx
  have c0 := KA0.out _ P1.out
  have c20 := KA20.out _ P1.out
  have c21 := KA21.out _ P1.out
  have c22 := KA22.out _ P1.out
  go_upto_region 2 with (fail)
  rw [← HW2.out]
  clear hcw c0 c20 c21 c22
  have c0 := KA0.out _ P2.out
  have c20 := KA20.out _ P2.out
  have c21 := KA21.out _ P2.out
  have c22 := KA22.out _ P2.out
  obtain ⟨w3, hw3⟩ : ∃ w3, w3 = w2.alloc (.cells #[.int .u8 q.kind] 5) := ⟨_, rfl⟩
  have hb3 : Below w2.heap.size w2 w3 := by rw [hw3]; exact bel_alloc _ _
  have hcw : (convert 67 9 (.slice (some ⟨w2.heap.size, 0, none⟩) 1 1)).run Try.prog (w2.alloc (.cells #[.int .u8 q.kind] 5)) = .ok (.string (bB q.kind)) (w2.alloc (.cells #[.int .u8 q.kind] 5)) := conv1 q.kind _ _ (cell_new1 w2 q.kind)
  have HW3 := Lib.hid hw3
  have B3 := Lib.hid (B2.out.trans (belowLe B2.out.size hb3))
  have P3 := Lib.hid ((hb3.block x (Array.getElem?_eq_some_iff.1 P2.out).1).trans P2.out)
  clear hb3 hw3
  go_upto_region 5 with (fail)
  rw [← HW3.out]
  clear hcw c0 c20 c21 c22
  have c0 := KA0.out _ P3.out
  have c20 := KA20.out _ P3.out
  have c21 := KA21.out _ P3.out
  have c22 := KA22.out _ P3.out
  go_upto_region 7 with (go_at_call 59; refine (rtext_any q.name hnm _).mono ?_; rintro e w4 ⟨rfl, hb4⟩)
  have B4 := Lib.hid (B3.out.trans (belowLe B3.out.size hb4))
  have P4 := Lib.hid ((hb4.block x (Array.getElem?_eq_some_iff.1 P3.out).1).trans P3.out)
  clear hb4 c0 c20 c21 c22
  have c0 := KA0.out _ P4.out
  have c20 := KA20.out _ P4.out
  have c21 := KA21.out _ P4.out
  have c22 := KA22.out _ P4.out
  go_wp2
  go_ret
  exact ⟨by rw [HBQ.out]; rfl, B4.out⟩
set_option maxRecDepth 100000 in
set_option maxHeartbeats 4000000 in
theorem pkr_4 (q : Rq) (f l c p i : Sl) (hf : RightF q) (hrb : rightB q = true) (hk : q.op = 4) (w : World) (hr : RowsR w q.ob f l c p i) :
    Calls Try.prog 25 #[.agg (rq q f l c p i)] w fun e w' => e = .returned (.tuple #[.string (bytesRq q), .int .i64 0]) ∧ Below w.heap.size w w' := by
  obtain ⟨w1, hw1, b1, p1⟩ := one_rq w (rq q f l c p i)
  obtain ⟨x, hx⟩ : ∃ x, x = w.heap.size := ⟨_, rfl⟩
  rw [← hx] at p1
  have ka0 : ∀ V : World, V.heap[x]? = some (.cells (rq q f l c p i) 51 (0, 0)) → V.cell? ⟨x, 0, none⟩ = some (.int .i64 4) := fun V hV => by simp [World.cell?, hV, rq, hk]
  have ka20 : ∀ V : World, V.heap[x]? = some (.cells (rq q f l c p i) 51 (0, 0)) → V.cell? ⟨x, 20, none⟩ = some (.int .i64 q.kind) := fun V hV => by simp [World.cell?, hV, rq]
  have ka21 : ∀ V : World, V.heap[x]? = some (.cells (rq q f l c p i) 51 (0, 0)) → V.cell? ⟨x, 21, none⟩ = some (.string q.name) := fun V hV => by simp [World.cell?, hV, rq]
  have ka22 : ∀ V : World, V.heap[x]? = some (.cells (rq q f l c p i) 51 (0, 0)) → V.cell? ⟨x, 22, none⟩ = some (.int .i64 q.version) := fun V hV => by simp [World.cell?, hV, rq]
  have R1 := Lib.hid (hr.below b1)
  have HF := Lib.hid hf
  have HW := Lib.hid hw1
  have B1 := Lib.hid b1
  have P1 := Lib.hid p1
  have KA0 := Lib.hid ka0
  have KA20 := Lib.hid ka20
  have KA21 := Lib.hid ka21
  have KA22 := Lib.hid ka22
  have hbq : bytesRq q = bB 4 ++ bB q.kind ++ bT q.name := by unfold bytesRq; rw [if_neg (by omega), if_neg (by omega), if_pos hk, hk]
  have HBQ := Lib.hid hbq
  clear hbq
  have z0 : (bB 4).size = 1 := bB_size _
  have g1 := (hf.kind (by omega)).1
  have g2 := (hf.kind (by omega)).2
  have z1 : (bB q.kind).size = 1 := bB_size _
  have z2 : (bT q.name).size ≤ 201 := by rw [bT_size]; have := hf.name (by omega); omega
  have z3 : (num8 q.version.toNat).size = 8 := num8_size _
  have z4 : (bB 4 ++ bB q.kind).size = 2 := by rw [ByteArray.size_append, z0, z1]
  have z5 : (bB 4 ++ bB q.kind ++ bT q.name).size ≤ 203 := by rw [ByteArray.size_append]; omega
  have hnm := hf.name (by omega)
  have hv1 := (hf.version (by omega)).1
  have hv2 := (hf.version (by omega)).2
  have z6 : (bB (q.name.size : Int)).size = 1 := bB_size _
  have z7 : (bB (q.name.size : Int) ++ q.name).size ≤ 201 := by rw [ByteArray.size_append]; omega
  have hwh : wholeB 4 = false := by decide
  have HWH := Lib.hid hwh
  have HRB := Lib.hid hrb
  clear hwh hrb
  clear b1 p1 hw1 hr hf ka0 ka20 ka21 ka22 hk
  go_enter Try.func25, Try.ntmps25
  go_upto_region 1 with (fail)
  rw [← HW.out, ← hx]
  clear hx
  go_wp2_with (refine wpList_load_row rfl 51 (.tmp 1) rfl x rfl 51 _ (0, 0) _ P1.out Try.underlying51 rfl size51 ?_)
  refine (right26_any q f l c p i (rightF_len HF.out) w1 R1.out).mono ?_
  rw [HRB.out]
  rintro e w2 ⟨rfl, hb2⟩
  have B2 := Lib.hid (B1.out.trans (belowLe B1.out.size hb2))
  have P2 := Lib.hid ((hb2.block x (Array.getElem?_eq_some_iff.1 P1.out).1).trans P1.out)
  have R2 := Lib.hid (R1.out.below hb2)
  clear hb2
  go_upto_region 3 with (fail)
  have c0 := KA0.out _ P2.out
  have c20 := KA20.out _ P2.out
  have c21 := KA21.out _ P2.out
  have c22 := KA22.out _ P2.out
  go_upto_region 6 with (go_at_call 55; refine (whole_any 4 false HWH.out _).mono ?_; rintro e w4 ⟨rfl, hw4⟩; have hw5 := hw4.symm; clear hw4; subst hw5)
  obtain ⟨w3, hw3⟩ : ∃ w3, w3 = w2.alloc (.cells #[.int .u8 4, .int .u8 q.kind] 5) := ⟨_, rfl⟩
  have hb3 : Below w2.heap.size w2 w3 := by rw [hw3]; exact bel_alloc _ _
  have hcw := conv2 4 q.kind w2
  have HW3 := Lib.hid hw3
  have B3 := Lib.hid (B2.out.trans (belowLe B2.out.size hb3))
  have P3 := Lib.hid ((hb3.block x (Array.getElem?_eq_some_iff.1 P2.out).1).trans P2.out)
  clear hb3 hw3
  go_upto_region 7 with (fail)
  rw [← HW3.out]
  clear hcw c0 c20 c21 c22
  have c0 := KA0.out _ P3.out
  have c20 := KA20.out _ P3.out
  have c21 := KA21.out _ P3.out
  have c22 := KA22.out _ P3.out
  obtain ⟨w4, hw4⟩ : ∃ w4, w4 = w3.alloc (.cells #[.int .u8 (q.name.size : Int)] 5) := ⟨_, rfl⟩
  have hb4 : Below w3.heap.size w3 w4 := by rw [hw4]; exact bel_alloc _ _
  have hcw := conv1 (q.name.size : Int) _ _ (cell_new1 w3 (q.name.size : Int))
  have HW4 := Lib.hid hw4
  have B4 := Lib.hid (B3.out.trans (belowLe B3.out.size hb4))
  have P4 := Lib.hid ((hb4.block x (Array.getElem?_eq_some_iff.1 P3.out).1).trans P3.out)
  have d21 := G.cell_below (bel_alloc w3 (.cells #[.int .u8 (q.name.size : Int)] 5)) c21
  clear hb4 hw4
  go_upto_region 9 with (fail)
  rw [← HW4.out]
  clear d21 hcw c0 c20 c21 c22
  have c0 := KA0.out _ P4.out
  have c20 := KA20.out _ P4.out
  have c21 := KA21.out _ P4.out
  have c22 := KA22.out _ P4.out
  go_wp2
  go_ret2
  exact ⟨by rw [HBQ.out]; rfl, B4.out⟩
set_option maxRecDepth 100000 in
set_option maxHeartbeats 4000000 in
theorem rqb_5 (q : Rq) (f l c p i : Sl) (hf : RightF q) (hk : q.op = 5) (w : World) (hr : RowsR w q.ob f l c p i) :
    Calls Try.prog 32 #[.agg (rq q f l c p i)] w fun e w' => e = .returned (.string (bytesRq q)) ∧ Below w.heap.size w w' := by
  obtain ⟨w1, hw1, b1, p1⟩ := one_rq w (rq q f l c p i)
  obtain ⟨x, hx⟩ : ∃ x, x = w.heap.size := ⟨_, rfl⟩
  rw [← hx] at p1
  have ka0 : ∀ V : World, V.heap[x]? = some (.cells (rq q f l c p i) 51 (0, 0)) → V.cell? ⟨x, 0, none⟩ = some (.int .i64 5) := fun V hV => by simp [World.cell?, hV, rq, hk]
  have ka20 : ∀ V : World, V.heap[x]? = some (.cells (rq q f l c p i) 51 (0, 0)) → V.cell? ⟨x, 20, none⟩ = some (.int .i64 q.kind) := fun V hV => by simp [World.cell?, hV, rq]
  have ka21 : ∀ V : World, V.heap[x]? = some (.cells (rq q f l c p i) 51 (0, 0)) → V.cell? ⟨x, 21, none⟩ = some (.string q.name) := fun V hV => by simp [World.cell?, hV, rq]
  have ka22 : ∀ V : World, V.heap[x]? = some (.cells (rq q f l c p i) 51 (0, 0)) → V.cell? ⟨x, 22, none⟩ = some (.int .i64 q.version) := fun V hV => by simp [World.cell?, hV, rq]
  have R1 := Lib.hid (hr.below b1)
  have HF := Lib.hid hf
  have HW := Lib.hid hw1
  have B1 := Lib.hid b1
  have P1 := Lib.hid p1
  have KA0 := Lib.hid ka0
  have KA20 := Lib.hid ka20
  have KA21 := Lib.hid ka21
  have KA22 := Lib.hid ka22
  have hbq : bytesRq q = bB 5 ++ bB q.kind := by unfold bytesRq; rw [if_neg (by omega), if_neg (by omega), if_neg (by omega), hk]
  have HBQ := Lib.hid hbq
  clear hbq
  have z0 : (bB 5).size = 1 := bB_size _
  have g1 := (hf.kind (by omega)).1
  have g2 := (hf.kind (by omega)).2
  have z1 : (bB q.kind).size = 1 := bB_size _
  have z2 : (bT q.name).size ≤ 201 := by rw [bT_size]; have := hf.name (by omega); omega
  have z3 : (num8 q.version.toNat).size = 8 := num8_size _
  have z4 : (bB 5 ++ bB q.kind).size = 2 := by rw [ByteArray.size_append, z0, z1]
  have z5 : (bB 5 ++ bB q.kind ++ bT q.name).size ≤ 203 := by rw [ByteArray.size_append]; omega
  have hnm := hf.name (by omega)
  have hv1 := (hf.version (by omega)).1
  have hv2 := (hf.version (by omega)).2
  have z6 : (bB (q.name.size : Int)).size = 1 := bB_size _
  have z7 : (bB (q.name.size : Int) ++ q.name).size ≤ 201 := by rw [ByteArray.size_append]; omega
  obtain ⟨w2, hw2⟩ : ∃ w2, w2 = w1.alloc (.cells #[.int .u8 5] 5) := ⟨_, rfl⟩
  have hb2 : Below w1.heap.size w1 w2 := by rw [hw2]; exact bel_alloc _ _
  have hcv : (convert 67 9 (.slice (some ⟨w1.heap.size, 0, none⟩) 1 1)).run Try.prog w2 = .ok (.string (bB 5)) w2 := by rw [hw2]; exact conv1 5 _ _ (cell_new1 w1 5)
  have hcw := hcv
  rw [hw2] at hcw
  have HW2 := Lib.hid hw2
  have B2 := Lib.hid (B1.out.trans (belowLe B1.out.size hb2))
  have P2 := Lib.hid ((hb2.block x (Array.getElem?_eq_some_iff.1 P1.out).1).trans P1.out)
  have R2 := Lib.hid (R1.out.below hb2)
  clear hb2 hcv hw2
  clear b1 p1 hw1 hr hf ka0 ka20 ka21 ka22 hk
  go_enter Try.func32, Try.ntmps32
  go_upto_region 1 with (fail)
  rw [← HW.out, ← hx]
  clear hx
  have c0 := KA0.out _ P1.out
  have c20 := KA20.out _ P1.out
  have c21 := KA21.out _ P1.out
  have c22 := KA22.out _ P1.out
  go_upto_region 2 with (fail)
  rw [← HW2.out]
  clear hcw c0 c20 c21 c22
  have c0 := KA0.out _ P2.out
  have c20 := KA20.out _ P2.out
  have c21 := KA21.out _ P2.out
  have c22 := KA22.out _ P2.out
  obtain ⟨w3, hw3⟩ : ∃ w3, w3 = w2.alloc (.cells #[.int .u8 q.kind] 5) := ⟨_, rfl⟩
  have hb3 : Below w2.heap.size w2 w3 := by rw [hw3]; exact bel_alloc _ _
  have hcw : (convert 67 9 (.slice (some ⟨w2.heap.size, 0, none⟩) 1 1)).run Try.prog (w2.alloc (.cells #[.int .u8 q.kind] 5)) = .ok (.string (bB q.kind)) (w2.alloc (.cells #[.int .u8 q.kind] 5)) := conv1 q.kind _ _ (cell_new1 w2 q.kind)
  have HW3 := Lib.hid hw3
  have B3 := Lib.hid (B2.out.trans (belowLe B2.out.size hb3))
  have P3 := Lib.hid ((hb3.block x (Array.getElem?_eq_some_iff.1 P2.out).1).trans P2.out)
  clear hb3 hw3
  go_upto_region 5 with (fail)
  rw [← HW3.out]
  clear hcw c0 c20 c21 c22
  have c0 := KA0.out _ P3.out
  have c20 := KA20.out _ P3.out
  have c21 := KA21.out _ P3.out
  have c22 := KA22.out _ P3.out
  go_wp2
  go_ret
  exact ⟨by rw [HBQ.out]; rfl, B3.out⟩
set_option maxRecDepth 100000 in
set_option maxHeartbeats 4000000 in
theorem pkr_5 (q : Rq) (f l c p i : Sl) (hf : RightF q) (hrb : rightB q = true) (hk : q.op = 5) (w : World) (hr : RowsR w q.ob f l c p i) :
    Calls Try.prog 25 #[.agg (rq q f l c p i)] w fun e w' => e = .returned (.tuple #[.string (bytesRq q), .int .i64 0]) ∧ Below w.heap.size w w' := by
  obtain ⟨w1, hw1, b1, p1⟩ := one_rq w (rq q f l c p i)
  obtain ⟨x, hx⟩ : ∃ x, x = w.heap.size := ⟨_, rfl⟩
  rw [← hx] at p1
  have ka0 : ∀ V : World, V.heap[x]? = some (.cells (rq q f l c p i) 51 (0, 0)) → V.cell? ⟨x, 0, none⟩ = some (.int .i64 5) := fun V hV => by simp [World.cell?, hV, rq, hk]
  have ka20 : ∀ V : World, V.heap[x]? = some (.cells (rq q f l c p i) 51 (0, 0)) → V.cell? ⟨x, 20, none⟩ = some (.int .i64 q.kind) := fun V hV => by simp [World.cell?, hV, rq]
  have ka21 : ∀ V : World, V.heap[x]? = some (.cells (rq q f l c p i) 51 (0, 0)) → V.cell? ⟨x, 21, none⟩ = some (.string q.name) := fun V hV => by simp [World.cell?, hV, rq]
  have ka22 : ∀ V : World, V.heap[x]? = some (.cells (rq q f l c p i) 51 (0, 0)) → V.cell? ⟨x, 22, none⟩ = some (.int .i64 q.version) := fun V hV => by simp [World.cell?, hV, rq]
  have R1 := Lib.hid (hr.below b1)
  have HF := Lib.hid hf
  have HW := Lib.hid hw1
  have B1 := Lib.hid b1
  have P1 := Lib.hid p1
  have KA0 := Lib.hid ka0
  have KA20 := Lib.hid ka20
  have KA21 := Lib.hid ka21
  have KA22 := Lib.hid ka22
  have hbq : bytesRq q = bB 5 ++ bB q.kind := by unfold bytesRq; rw [if_neg (by omega), if_neg (by omega), if_neg (by omega), hk]
  have HBQ := Lib.hid hbq
  clear hbq
  have z0 : (bB 5).size = 1 := bB_size _
  have g1 := (hf.kind (by omega)).1
  have g2 := (hf.kind (by omega)).2
  have z1 : (bB q.kind).size = 1 := bB_size _
  have z2 : (bT q.name).size ≤ 201 := by rw [bT_size]; have := hf.name (by omega); omega
  have z3 : (num8 q.version.toNat).size = 8 := num8_size _
  have z4 : (bB 5 ++ bB q.kind).size = 2 := by rw [ByteArray.size_append, z0, z1]
  have z5 : (bB 5 ++ bB q.kind ++ bT q.name).size ≤ 203 := by rw [ByteArray.size_append]; omega
  have hnm := hf.name (by omega)
  have hv1 := (hf.version (by omega)).1
  have hv2 := (hf.version (by omega)).2
  have z6 : (bB (q.name.size : Int)).size = 1 := bB_size _
  have z7 : (bB (q.name.size : Int) ++ q.name).size ≤ 201 := by rw [ByteArray.size_append]; omega
  have hwh : wholeB 5 = false := by decide
  have HWH := Lib.hid hwh
  have HRB := Lib.hid hrb
  clear hwh hrb
  clear b1 p1 hw1 hr hf ka0 ka20 ka21 ka22 hk
  go_enter Try.func25, Try.ntmps25
  go_upto_region 1 with (fail)
  rw [← HW.out, ← hx]
  clear hx
  go_wp2_with (refine wpList_load_row rfl 51 (.tmp 1) rfl x rfl 51 _ (0, 0) _ P1.out Try.underlying51 rfl size51 ?_)
  refine (right26_any q f l c p i (rightF_len HF.out) w1 R1.out).mono ?_
  rw [HRB.out]
  rintro e w2 ⟨rfl, hb2⟩
  have B2 := Lib.hid (B1.out.trans (belowLe B1.out.size hb2))
  have P2 := Lib.hid ((hb2.block x (Array.getElem?_eq_some_iff.1 P1.out).1).trans P1.out)
  have R2 := Lib.hid (R1.out.below hb2)
  clear hb2
  go_upto_region 3 with (fail)
  have c0 := KA0.out _ P2.out
  have c20 := KA20.out _ P2.out
  have c21 := KA21.out _ P2.out
  have c22 := KA22.out _ P2.out
  go_upto_region 6 with (go_at_call 55; refine (whole_any 5 false HWH.out _).mono ?_; rintro e w4 ⟨rfl, hw4⟩; have hw5 := hw4.symm; clear hw4; subst hw5)
  obtain ⟨w3, hw3⟩ : ∃ w3, w3 = w2.alloc (.cells #[.int .u8 5, .int .u8 q.kind] 5) := ⟨_, rfl⟩
  have hb3 : Below w2.heap.size w2 w3 := by rw [hw3]; exact bel_alloc _ _
  have hcw := conv2 5 q.kind w2
  have HW3 := Lib.hid hw3
  have B3 := Lib.hid (B2.out.trans (belowLe B2.out.size hb3))
  have P3 := Lib.hid ((hb3.block x (Array.getElem?_eq_some_iff.1 P2.out).1).trans P2.out)
  clear hb3 hw3
  go_upto_region 7 with (fail)
  rw [← HW3.out]
  clear hcw c0 c20 c21 c22
  have c0 := KA0.out _ P3.out
  have c20 := KA20.out _ P3.out
  have c21 := KA21.out _ P3.out
  have c22 := KA22.out _ P3.out
  go_wp2
  go_ret2
  exact ⟨by rw [HBQ.out]; rfl, B3.out⟩
theorem rqb_any (q : Rq) (f l c p i : Sl) (hf : RightF q) (w : World) (hr : RowsR w q.ob f l c p i) :
    Calls Try.prog 32 #[.agg (rq q f l c p i)] w fun e w' => e = .returned (.string (bytesRq q)) ∧ Below w.heap.size w w' := by
  have := hf.op
  rcases (by omega : q.op = 1 ∨ q.op = 2 ∨ q.op = 3 ∨ q.op = 4 ∨ q.op = 5) with h | h | h | h | h
  · exact rqb_1 q f l c p i hf h w hr
  · exact rqb_2 q f l c p i hf h w hr
  · exact rqb_3 q f l c p i hf h w hr
  · exact rqb_4 q f l c p i hf h w hr
  · exact rqb_5 q f l c p i hf h w hr
set_option maxRecDepth 100000 in
set_option maxHeartbeats 4000000 in
theorem pkr_bad (q : Rq) (f l c p i : Sl) (hs : q.ob.fins.length ≤ 1000000 ∧ q.ob.labels.length ≤ 1000000 ∧ q.ob.cidrs.length ≤ 1000000 ∧ q.ob.fams.length ≤ 1000000 ∧ q.ob.ips.length ≤ 1000000) (hrb : rightB q = false) (w : World) (hr : RowsR w q.ob f l c p i) :
    Calls Try.prog 25 #[.agg (rq q f l c p i)] w fun e w' => e = .returned (.tuple #[.string ⟨#[]⟩, .int .i64 4]) ∧ Below w.heap.size w w' := by
  obtain ⟨w1, hw1, b1, p1⟩ := one_rq w (rq q f l c p i)
  obtain ⟨x, hx⟩ : ∃ x, x = w.heap.size := ⟨_, rfl⟩
  rw [← hx] at p1
  have R1 := Lib.hid (hr.below b1)
  have HS := Lib.hid hs
  have HW := Lib.hid hw1
  have B1 := Lib.hid b1
  have P1 := Lib.hid p1
  have HRB := Lib.hid hrb
  clear b1 p1 hw1 hr hs hrb
  go_enter Try.func25, Try.ntmps25
  go_upto_region 1 with (fail)
  rw [← HW.out, ← hx]
  clear hx
  go_wp2_with (refine wpList_load_row rfl 51 (.tmp 1) rfl x rfl 51 _ (0, 0) _ P1.out Try.underlying51 rfl size51 ?_)
  refine (right26_any q f l c p i HS.out w1 R1.out).mono ?_
  rw [HRB.out]
  rintro e w2 ⟨rfl, hb2⟩
  go_wp2
  go_ret2
  exact ⟨rfl, B1.out.trans (belowLe B1.out.size hb2)⟩
def packRq (q : Rq) : ByteArray × Int := if rightB q = true then (bytesRq q, 0) else (⟨#[]⟩, 4)
theorem pkr_any (q : Rq) (f l c p i : Sl) (hs : q.ob.fins.length ≤ 1000000 ∧ q.ob.labels.length ≤ 1000000 ∧ q.ob.cidrs.length ≤ 1000000 ∧ q.ob.fams.length ≤ 1000000 ∧ q.ob.ips.length ≤ 1000000) (w : World) (hr : RowsR w q.ob f l c p i) :
    Calls Try.prog 25 #[.agg (rq q f l c p i)] w fun e w' => e = .returned (.tuple #[.string (packRq q).1, .int .i64 (packRq q).2]) ∧ Below w.heap.size w w' := by
  unfold packRq
  cases hrb : rightB q
  · rw [if_neg (by decide)]; exact pkr_bad q f l c p i hs hrb w hr
  · rw [if_pos rfl]
    have hf := rightF hrb
    have := hf.op
    rcases (by omega : q.op = 1 ∨ q.op = 2 ∨ q.op = 3 ∨ q.op = 4 ∨ q.op = 5) with h | h | h | h | h
    · exact pkr_1 q f l c p i hf hrb h w hr
    · exact pkr_2 q f l c p i hf hrb h w hr
    · exact pkr_3 q f l c p i hf hrb h w hr
    · exact pkr_4 q f l c p i hf hrb h w hr
    · exact pkr_5 q f l c p i hf hrb h w hr
def exQ : Rq := ⟨4, zeroOb, 1, ⟨#[110]⟩, 0⟩
theorem pack_exQ : packRq exQ = (⟨#[4, 1, 1, 110]⟩, 0) := by kernel_rfl
set_option maxRecDepth 100000 in
set_option maxHeartbeats 4000000 in
theorem awakew_any (w : World) : Calls Try.prog 24 #[] w fun e w' => e = .returned (.bool true) ∧ Below w.heap.size w w' := by
  have hp := pkr_any exQ Sl0 Sl0 Sl0 Sl0 Sl0 zero_len w (RowsR.zero w)
  rw [pack_exQ] at hp
  have HP := Lib.hid hp
  clear hp
  go_enter Try.func24, Try.ntmps24
  go_wp2_with (fail)
  refine HP.out.mono ?_
  rintro e w1 ⟨rfl, hb⟩
  go_wp2
  go_ret
  exact ⟨rfl, hb⟩
end Go.Proofs.Ytolndeolehkjoaa
