/- Requests: their bytes. -/
import Derived.Test.YtolndeolehkjoaaWq4c
import Derived.Test.YtolndeolehkjoaaWpPd
namespace Go.Proofs.Ytolndeolehkjoaa
set_option linter.unusedVariables false
set_option linter.unusedSimpArgs false
open Go.RowKit CodP
def bytesRq (q : Rq) : ByteArray := if q.op = 1 ∨ q.op = 2 then bB q.op ++ bytesS q.ob else if q.op = 3 then bB q.op ++ bB q.kind ++ bT q.name ++ num8 q.version.toNat else if q.op = 4 then bB q.op ++ bB q.kind ++ bT q.name else bB q.op ++ bB q.kind
structure RightF (q : Rq) : Prop where
  op : 1 ≤ q.op ∧ q.op ≤ 5
  only : onlyRB q = true
  ob : q.op ≤ 2 → CodP.shape q.ob = true
  kind : 3 ≤ q.op → 1 ≤ q.kind ∧ q.kind ≤ 4
  name : 3 ≤ q.op → q.name.size ≤ 200
  version : 3 ≤ q.op → 0 ≤ q.version ∧ q.version ≤ 1099511627776
theorem rightF {q : Rq} (h : rightB q = true) : RightF q := by
  unfold rightB at h
  simp only [Bool.and_eq_true] at h
  obtain ⟨h1, h2, h3⟩ := h
  have hop := of_decide_eq_true h1
  have hop2 : 1 ≤ q.op ∧ q.op ≤ 5 := by omega
  by_cases hw : q.op = 1 ∨ q.op = 2
  · have hwb : wholeB q.op = true := decide_eq_true hw
    rw [if_pos hwb] at h3
    exact ⟨hop2, h2, fun _ => h3, fun h => by omega, fun h => by omega, fun h => by omega⟩
  · have hwb : wholeB q.op = false := decide_eq_false hw
    rw [if_neg (by rw [hwb]; decide)] at h3
    unfold okRest at h3
    simp only [Bool.and_eq_true] at h3
    obtain ⟨r1, r2, r3⟩ := h3
    have := of_decide_eq_true r1
    have r2' := of_decide_eq_true r2
    have := of_decide_eq_true r3
    exact ⟨hop2, h2, fun h => by omega, fun _ => by omega, fun _ => r2', fun _ => by omega⟩
theorem rightF_len {q : Rq} (h : RightF q) : q.ob.fins.length ≤ 1000000 ∧ q.ob.labels.length ≤ 1000000 ∧ q.ob.cidrs.length ≤ 1000000 ∧ q.ob.fams.length ≤ 1000000 ∧ q.ob.ips.length ≤ 1000000 := by
  by_cases hw : q.op ≤ 2
  · exact shape_len q.ob (h.ob hw)
  · have ho := h.only
    unfold onlyRB sameRq at ho
    simp only [Bool.and_eq_true] at ho
    have h5 := ho.2.2.2.2
    have hb : (bareQ q).ob = q.ob := by
      have := h.op
      unfold bareQ
      rw [if_neg (by omega)]
      split
      · rfl
      split
      · rfl
      · rfl
    rw [hb] at h5
    unfold sameB at h5
    simp only [Bool.and_eq_true, decide_eq_true_eq] at h5
    obtain ⟨_, e1, e2, e3, e4, e5⟩ := h5
    have l1 := congrArg List.length e1; have l2 := congrArg List.length e2; have l3 := congrArg List.length e3; have l4 := congrArg List.length e4; have l5 := congrArg List.length e5
    have z : zeroRq.ob = zeroOb := rfl
    rw [z] at l1 l2 l3 l4 l5
    have zz := zero_len
    omega
theorem conv2 (a b : Int) (V : World) : (convert 67 9 (.slice (some ⟨V.heap.size, 0, none⟩) 2 2)).run Try.prog (V.alloc (.cells #[.int .u8 a, .int .u8 b] 5)) = .ok (.string (bB a ++ bB b)) (V.alloc (.cells #[.int .u8 a, .int .u8 b] 5)) := by
  have h := G.heap_new V (.cells #[.int .u8 a, .int .u8 b] 5)
  have := run_convert_bytes_arg (P := Try.prog) (w := V.alloc (.cells #[.int .u8 a, .int .u8 b] 5)) 67 5 Try.underlying67 Try.underlying5 V.heap.size 0 2 2 [a, b] rfl (fun i hi => by
    rcases (by omega : i = 0 ∨ i = 1) with rfl | rfl <;> (simp only [World.cell?, h]; rfl)) 9 Try.underlying9
  rw [this]
  congr 2
set_option maxRecDepth 100000 in
set_option maxHeartbeats 4000000 in
theorem rqb_1 (q : Rq) (f l c p i : Sl) (hf : RightF q) (hk : q.op = 1) (w : World) (hr : RowsR w q.ob f l c p i) :
    Calls Try.prog 32 #[.agg (rq q f l c p i)] w fun e w' => e = .returned (.string (bytesRq q)) ∧ Below w.heap.size w w' := by
  obtain ⟨w1, hw1, b1, p1⟩ := one_rq w (rq q f l c p i)
  obtain ⟨x, hx⟩ : ∃ x, x = w.heap.size := ⟨_, rfl⟩
  rw [← hx] at p1
  have ka0 : ∀ V : World, V.heap[x]? = some (.cells (rq q f l c p i) 51 (0, 0)) → V.cell? ⟨x, 0, none⟩ = some (.int .i64 1) := fun V hV => by simp [World.cell?, hV, rq, hk]
  have ka20 : ∀ V : World, V.heap[x]? = some (.cells (rq q f l c p i) 51 (0, 0)) → V.cell? ⟨x, 20, none⟩ = some (.int .i64 q.kind) := fun V hV => by simp [World.cell?, hV, rq]
  have ka21 : ∀ V : World, V.heap[x]? = some (.cells (rq q f l c p i) 51 (0, 0)) → V.cell? ⟨x, 21, none⟩ = some (.string q.name) := fun V hV => by simp [World.cell?, hV, rq]
  have ka22 : ∀ V : World, V.heap[x]? = some (.cells (rq q f l c p i) 51 (0, 0)) → V.cell? ⟨x, 22, none⟩ = some (.int .i64 q.version) := fun V hV => by simp [World.cell?, hV, rq]
  have R1 := Lib.hid (hr.below b1)
  have HF := Lib.hid hf
  have HW := Lib.hid hw1
  have B1 := Lib.hid b1
  have P1 := Lib.hid p1
  have KA0 := Lib.hid ka0
  have KA20 := Lib.hid ka20
  have KA21 := Lib.hid ka21
  have KA22 := Lib.hid ka22
  have hbq : bytesRq q = bB 1 ++ bytesS q.ob := by unfold bytesRq; rw [if_pos (by omega), hk]
  have HBQ := Lib.hid hbq
  clear hbq
  have z0 : (bB 1).size = 1 := bB_size _
  have z1 := bytesS_le q.ob (hf.ob (by omega))
  have HSH := Lib.hid (hf.ob (by omega))
  obtain ⟨w2, hw2⟩ : ∃ w2, w2 = w1.alloc (.cells #[.int .u8 1] 5) := ⟨_, rfl⟩
  have hb2 : Below w1.heap.size w1 w2 := by rw [hw2]; exact bel_alloc _ _
  have hcv : (convert 67 9 (.slice (some ⟨w1.heap.size, 0, none⟩) 1 1)).run Try.prog w2 = .ok (.string (bB 1)) w2 := by rw [hw2]; exact conv1 1 _ _ (cell_new1 w1 1)
  have hcw := hcv
  rw [hw2] at hcw
  have HW2 := Lib.hid hw2
  have B2 := Lib.hid (B1.out.trans (belowLe B1.out.size hb2))
  have P2 := Lib.hid ((hb2.block x (Array.getElem?_eq_some_iff.1 P1.out).1).trans P1.out)
  have R2 := Lib.hid (R1.out.below hb2)
  clear hb2 hcv hw2
  clear b1 p1 hw1 hr hf ka0 ka20 ka21 ka22 hk
  go_enter Try.func32, Try.ntmps32
  go_upto_region 1 with (fail)
  rw [← HW.out, ← hx]
  clear hx
  have c0 := KA0.out _ P1.out
  have c20 := KA20.out _ P1.out
  have c21 := KA21.out _ P1.out
  have c22 := KA22.out _ P1.out
  go_upto_region 2 with (fail)
  rw [← HW2.out]
  clear hcw c0 c20 c21 c22
  have c0 := KA0.out _ P2.out
  have c20 := KA20.out _ P2.out
  have c21 := KA21.out _ P2.out
  have c22 := KA22.out _ P2.out
  go_upto_region 3 with (fail)
  iterate 7 (first | go_values | go_skip | go_guarded | go_step)
  refine wpList_load_elem rfl (.tmp 13) rfl x 1 rfl ⟨q.ob, f, l, c, p, i⟩ (rq_mid P2.out) ?_
  go_wp2_with (go_at_call 48; refine (rbytes_any q.ob f l c p i (fits_of q.ob HSH.out) _ R2.out).mono ?_; rintro e w3 ⟨rfl, hb3⟩)
  go_ret
  exact ⟨by rw [HBQ.out]; rfl, B2.out.trans (belowLe B2.out.size hb3)⟩
set_option maxRecDepth 100000 in
set_option maxHeartbeats 4000000 in
theorem rqb_2 (q : Rq) (f l c p i : Sl) (hf : RightF q) (hk : q.op = 2) (w : World) (hr : RowsR w q.ob f l c p i) :
    Calls Try.prog 32 #[.agg (rq q f l c p i)] w fun e w' => e = .returned (.string (bytesRq q)) ∧ Below w.heap.size w w' := by
  obtain ⟨w1, hw1, b1, p1⟩ := one_rq w (rq q f l c p i)
  obtain ⟨x, hx⟩ : ∃ x, x = w.heap.size := ⟨_, rfl⟩
  rw [← hx] at p1
  have ka0 : ∀ V : World, V.heap[x]? = some (.cells (rq q f l c p i) 51 (0, 0)) → V.cell? ⟨x, 0, none⟩ = some (.int .i64 2) := fun V hV => by simp [World.cell?, hV, rq, hk]
  have ka20 : ∀ V : World, V.heap[x]? = some (.cells (rq q f l c p i) 51 (0, 0)) → V.cell? ⟨x, 20, none⟩ = some (.int .i64 q.kind) := fun V hV => by simp [World.cell?, hV, rq]
  have ka21 : ∀ V : World, V.heap[x]? = some (.cells (rq q f l c p i) 51 (0, 0)) → V.cell? ⟨x, 21, none⟩ = some (.string q.name) := fun V hV => by simp [World.cell?, hV, rq]
  have ka22 : ∀ V : World, V.heap[x]? = some (.cells (rq q f l c p i) 51 (0, 0)) → V.cell? ⟨x, 22, none⟩ = some (.int .i64 q.version) := fun V hV => by simp [World.cell?, hV, rq]
  have R1 := Lib.hid (hr.below b1)
  have HF := Lib.hid hf
  have HW := Lib.hid hw1
  have B1 := Lib.hid b1
  have P1 := Lib.hid p1
  have KA0 := Lib.hid ka0
  have KA20 := Lib.hid ka20
  have KA21 := Lib.hid ka21
  have KA22 := Lib.hid ka22
  have hbq : bytesRq q = bB 2 ++ bytesS q.ob := by unfold bytesRq; rw [if_pos (by omega), hk]
  have HBQ := Lib.hid hbq
  clear hbq
  have z0 : (bB 2).size = 1 := bB_size _
  have z1 := bytesS_le q.ob (hf.ob (by omega))
  have HSH := Lib.hid (hf.ob (by omega))
  obtain ⟨w2, hw2⟩ : ∃ w2, w2 = w1.alloc (.cells #[.int .u8 2] 5) := ⟨_, rfl⟩
  have hb2 : Below w1.heap.size w1 w2 := by rw [hw2]; exact bel_alloc _ _
  have hcv : (convert 67 9 (.slice (some ⟨w1.heap.size, 0, none⟩) 1 1)).run Try.prog w2 = .ok (.string (bB 2)) w2 := by rw [hw2]; exact conv1 2 _ _ (cell_new1 w1 2)
  have hcw := hcv
  rw [hw2] at hcw
  have HW2 := Lib.hid hw2
  have B2 := Lib.hid (B1.out.trans (belowLe B1.out.size hb2))
  have P2 := Lib.hid ((hb2.block x (Array.getElem?_eq_some_iff.1 P1.out).1).trans P1.out)
  have R2 := Lib.hid (R1.out.below hb2)
  clear hb2 hcv hw2
  clear b1 p1 hw1 hr hf ka0 ka20 ka21 ka22 hk
  go_enter Try.func32, Try.ntmps32
  go_upto_region 1 with (fail)
  rw [← HW.out, ← hx]
  clear hx
  have c0 := KA0.out _ P1.out
  have c20 := KA20.out _ P1.out
  have c21 := KA21.out _ P1.out
  have c22 := KA22.out _ P1.out
  go_upto_region 2 with (fail)
  rw [← HW2.out]
  clear hcw c0 c20 c21 c22
  have c0 := KA0.out _ P2.out
  have c20 := KA20.out _ P2.out
  have c21 := KA21.out _ P2.out
  have c22 := KA22.out _ P2.out
  go_upto_region 3 with (fail)
  iterate 7 (first | go_values | go_skip | go_guarded | go_step)
  refine wpList_load_elem rfl (.tmp 13) rfl x 1 rfl ⟨q.ob, f, l, c, p, i⟩ (rq_mid P2.out) ?_
  go_wp2_with (go_at_call 48; refine (rbytes_any q.ob f l c p i (fits_of q.ob HSH.out) _ R2.out).mono ?_; rintro e w3 ⟨rfl, hb3⟩)
  go_ret
  exact ⟨by rw [HBQ.out]; rfl, B2.out.trans (belowLe B2.out.size hb3)⟩
set_option maxRecDepth 100000 in
set_option maxHeartbeats 4000000 in
theorem rqb_3 (q : Rq) (f l c p i : Sl) (hf : RightF q) (hk : q.op = 3) (w : World) (hr : RowsR w q.ob f l c p i) :
    Calls Try.prog 32 #[.agg (rq q f l c p i)] w fun e w' => e = .returned (.string (bytesRq q)) ∧ Below w.heap.size w w' := by
  obtain ⟨w1, hw1, b1, p1⟩ := one_rq w (rq q f l c p i)
  obtain ⟨x, hx⟩ : ∃ x, x = w.heap.size := ⟨_, rfl⟩
  rw [← hx] at p1
  have ka0 : ∀ V : World, V.heap[x]? = some (.cells (rq q f l c p i) 51 (0, 0)) → V.cell? ⟨x, 0, none⟩ = some (.int .i64 3) := fun V hV => by simp [World.cell?, hV, rq, hk]
  have ka20 : ∀ V : World, V.heap[x]? = some (.cells (rq q f l c p i) 51 (0, 0)) → V.cell? ⟨x, 20, none⟩ = some (.int .i64 q.kind) := fun V hV => by simp [World.cell?, hV, rq]
  have ka21 : ∀ V : World, V.heap[x]? = some (.cells (rq q f l c p i) 51 (0, 0)) → V.cell? ⟨x, 21, none⟩ = some (.string q.name) := fun V hV => by simp [World.cell?, hV, rq]
  have ka22 : ∀ V : World, V.heap[x]? = some (.cells (rq q f l c p i) 51 (0, 0)) → V.cell? ⟨x, 22, none⟩ = some (.int .i64 q.version) := fun V hV => by simp [World.cell?, hV, rq]
  have R1 := Lib.hid (hr.below b1)
  have HF := Lib.hid hf
  have HW := Lib.hid hw1
  have B1 := Lib.hid b1
  have P1 := Lib.hid p1
  have KA0 := Lib.hid ka0
  have KA20 := Lib.hid ka20
  have KA21 := Lib.hid ka21
  have KA22 := Lib.hid ka22
  have hbq : bytesRq q = bB 3 ++ bB q.kind ++ bT q.name ++ num8 q.version.toNat := by unfold bytesRq; rw [if_neg (by omega), if_pos hk, hk]
  have HBQ := Lib.hid hbq
  clear hbq
  have z0 : (bB 3).size = 1 := bB_size _
  have g1 := (hf.kind (by omega)).1
  have g2 := (hf.kind (by omega)).2
  have z1 : (bB q.kind).size = 1 := bB_size _
  have z2 : (bT q.name).size ≤ 201 := by rw [bT_size]; have := hf.name (by omega); omega
  have z3 : (num8 q.version.toNat).size = 8 := num8_size _
  have z4 : (bB 3 ++ bB q.kind).size = 2 := by rw [ByteArray.size_append, z0, z1]
  have z5 : (bB 3 ++ bB q.kind ++ bT q.name).size ≤ 203 := by rw [ByteArray.size_append]; omega
  have hnm := hf.name (by omega)
  have hv1 := (hf.version (by omega)).1
  have hv2 := (hf.version (by omega)).2
  have z6 : (bB (q.name.size : Int)).size = 1 := bB_size _
  have z7 : (bB (q.name.size : Int) ++ q.name).size ≤ 201 := by rw [ByteArray.size_append]; omega
  obtain ⟨w2, hw2⟩ : ∃ w2, w2 = w1.alloc (.cells #[.int .u8 3] 5) := ⟨_, rfl⟩
  have hb2 : Below w1.heap.size w1 w2 := by rw [hw2]; exact bel_alloc _ _
  have hcv : (convert 67 9 (.slice (some ⟨w1.heap.size, 0, none⟩) 1 1)).run Try.prog w2 = .ok (.string (bB 3)) w2 := by rw [hw2]; exact conv1 3 _ _ (cell_new1 w1 3)
  have hcw := hcv
  rw [hw2] at hcw
  have HW2 := Lib.hid hw2
  have B2 := Lib.hid (B1.out.trans (belowLe B1.out.size hb2))
  have P2 := Lib.hid ((hb2.block x (Array.getElem?_eq_some_iff.1 P1.out).1).trans P1.out)
  have R2 := Lib.hid (R1.out.below hb2)
  clear hb2 hcv hw2
  clear b1 p1 hw1 hr hf ka0 ka20 ka21 ka22 hk
  go_enter Try.func32, Try.ntmps32
  go_upto_region 1 with (fail)
  rw [← HW.out, ← hx]
  clear hx
  have c0 := KA0.out _ P1.out
  have c20 := KA20.out _ P1.out
  have c21 := KA21.out _ P1.out
  have c22 := KA22.out _ P1.out
  go_upto_region 2 with (fail)
  rw [← HW2.out]
  clear hcw c0 c20 c21 c22
  have c0 := KA0.out _ P2.out
  have c20 := KA20.out _ P2.out
  have c21 := KA21.out _ P2.out
  have c22 := KA22.out _ P2.out
  obtain ⟨w3, hw3⟩ : ∃ w3, w3 = w2.alloc (.cells #[.int .u8 q.kind] 5) := ⟨_, rfl⟩
  have hb3 : Below w2.heap.size w2 w3 := by rw [hw3]; exact bel_alloc _ _
  have hcw : (convert 67 9 (.slice (some ⟨w2.heap.size, 0, none⟩) 1 1)).run Try.prog (w2.alloc (.cells #[.int .u8 q.kind] 5)) = .ok (.string (bB q.kind)) (w2.alloc (.cells #[.int .u8 q.kind] 5)) := conv1 q.kind _ _ (cell_new1 w2 q.kind)
  have HW3 := Lib.hid hw3
  have B3 := Lib.hid (B2.out.trans (belowLe B2.out.size hb3))
  have P3 := Lib.hid ((hb3.block x (Array.getElem?_eq_some_iff.1 P2.out).1).trans P2.out)
  clear hb3 hw3
  go_upto_region 5 with (fail)
  rw [← HW3.out]
  clear hcw c0 c20 c21 c22
  have c0 := KA0.out _ P3.out
  have c20 := KA20.out _ P3.out
  have c21 := KA21.out _ P3.out
  have c22 := KA22.out _ P3.out
  go_upto_region 7 with (go_at_call 59; refine (rtext_any q.name hnm _).mono ?_; rintro e w4 ⟨rfl, hb4⟩)
  have B4 := Lib.hid (B3.out.trans (belowLe B3.out.size hb4))
  have P4 := Lib.hid ((hb4.block x (Array.getElem?_eq_some_iff.1 P3.out).1).trans P3.out)
  clear hb4 c0 c20 c21 c22
  have c0 := KA0.out _ P4.out
  have c20 := KA20.out _ P4.out
  have c21 := KA21.out _ P4.out
  have c22 := KA22.out _ P4.out
  go_wp2_with (go_at_call 14; refine (rnumI_any q.version hv1 hv2 _).mono ?_; rintro e w5 ⟨rfl, hb5⟩)
  go_ret
  exact ⟨by rw [HBQ.out]; rfl, B4.out.trans (belowLe B4.out.size hb5)⟩
set_option maxRecDepth 100000 in
set_option maxHeartbeats 4000000 in
theorem rqb_4 (q : Rq) (f l c p i : Sl) (hf : RightF q) (hk : q.op = 4) (w : World) (hr : RowsR w q.ob f l c p i) :
    Calls Try.prog 32 #[.agg (rq q f l c p i)] w fun e w' => e = .returned (.string (bytesRq q)) ∧ Below w.heap.size w w' := by
  obtain ⟨w1, hw1, b1, p1⟩ := one_rq w (rq q f l c p i)
  obtain ⟨x, hx⟩ : ∃ x, x = w.heap.size := ⟨_, rfl⟩
  rw [← hx] at p1
  have ka0 : ∀ V : World, V.heap[x]? = some (.cells (rq q f l c p i) 51 (0, 0)) → V.cell? ⟨x, 0, none⟩ = some (.int .i64 4) := fun V hV => by simp [World.cell?, hV, rq, hk]
  have ka20 : ∀ V : World, V.heap[x]? = some (.cells (rq q f l c p i) 51 (0, 0)) → V.cell? ⟨x, 20, none⟩ = some (.int .i64 q.kind) := fun V hV => by simp [World.cell?, hV, rq]
  have ka21 : ∀ V : World, V.heap[x]? = some (.cells (rq q f l c p i) 51 (0, 0)) → V.cell? ⟨x, 21, none⟩ = some (.string q.name) := fun V hV => by simp [World.cell?, hV, rq]
  have ka22 : ∀ V : World, V.heap[x]? = some (.cells (rq q f l c p i) 51 (0, 0)) → V.cell? ⟨x, 22, none⟩ = some (.int .i64 q.version) := fun V hV => by simp [World.cell?, hV, rq]
  have R1 := Lib.hid (hr.below b1)
  have HF := Lib.hid hf
  have HW := Lib.hid hw1
  have B1 := Lib.hid b1
  have P1 := Lib.hid p1
  have KA0 := Lib.hid ka0
  have KA20 := Lib.hid ka20
  have KA21 := Lib.hid ka21
  have KA22 := Lib.hid ka22
  have hbq : bytesRq q = bB 4 ++ bB q.kind ++ bT q.name := by unfold bytesRq; rw [if_neg (by omega), if_neg (by omega), if_pos hk, hk]
  have HBQ := Lib.hid hbq
  clear hbq
  have z0 : (bB 4).size = 1 := bB_size _
  have g1 := (hf.kind (by omega)).1
  have g2 := (hf.kind (by omega)).2
  have z1 : (bB q.kind).size = 1 := bB_size _
  have z2 : (bT q.name).size ≤ 201 := by rw [bT_size]; have := hf.name (by omega); omega
  have z3 : (num8 q.version.toNat).size = 8 := num8_size _
  have z4 : (bB 4 ++ bB q.kind).size = 2 := by rw [ByteArray.size_append, z0, z1]
  have z5 : (bB 4 ++ bB q.kind ++ bT q.name).size ≤ 203 := by rw [ByteArray.size_append]; omega
  have hnm := hf.name (by omega)
  have hv1 := (hf.version (by omega)).1
  have hv2 := (hf.version (by omega)).2
  have z6 : (bB (q.name.size : Int)).size = 1 := bB_size _
  have z7 : (bB (q.name.size : Int) ++ q.name).size ≤ 201 := by rw [ByteArray.size_append]; omega
  obtain ⟨w2, hw2⟩ : ∃ w2, w2 = w1.alloc (.cells #[.int .u8 4] 5) := ⟨_, rfl⟩
  have hb2 : Below w1.heap.size w1 w2 := by rw [hw2]; exact bel_alloc _ _
  have hcv : (convert 67 9 (.slice (some ⟨w1.heap.size, 0, none⟩) 1 1)).run Try.prog w2 = .ok (.string (bB 4)) w2 := by rw [hw2]; exact conv1 4 _ _ (cell_new1 w1 4)
  have hcw := hcv
  rw [hw2] at hcw
  have HW2 := Lib.hid hw2
  have B2 := Lib.hid (B1.out.trans (belowLe B1.out.size hb2))
  have P2 := Lib.hid ((hb2.block x (Array.getElem?_eq_some_iff.1 P1.out).1).trans P1.out)
  have R2 := Lib.hid (R1.out.below hb2)
  clear hb2 hcv hw2
  clear b1 p1 hw1 hr hf ka0 ka20 ka21 ka22 hk
  go_enter Try.func32, Try.ntmps32
  go_upto_region 1 with (fail)
  rw [← HW.out, ← hx]
  clear hx
  have c0 := KA0.out _ P1.out
  have c20 := KA20.out _ P1.out
  have c21 := KA21.out _ P1.out
  have c22 := KA22.out _ P1.out
  go_upto_region 2 with (fail)
  rw [← HW2.out]
  clear hcw c0 c20 c21 c22
  have c0 := KA0.out _ P2.out
  have c20 := KA20.out _ P2.out
  have c21 := KA21.out _ P2.out
  have c22 := KA22.out _ P2.out
  obtain ⟨w3, hw3⟩ : ∃ w3, w3 = w2.alloc (.cells #[.int .u8 q.kind] 5) := ⟨_, rfl⟩
  have hb3 : Below w2.heap.size w2 w3 := by rw [hw3]; exact bel_alloc _ _
  have hcw : (convert 67 9 (.slice (some ⟨w2.heap.size, 0, none⟩) 1 1)).run Try.prog (w2.alloc (.cells #[.int .u8 q.kind] 5)) = .ok (.string (bB q.kind)) (w2.alloc (.cells #[.int .u8 q.kind] 5)) := conv1 q.kind _ _ (cell_new1 w2 q.kind)
  have HW3 := Lib.hid hw3
  have B3 := Lib.hid (B2.out.trans (belowLe B2.out.size hb3))
  have P3 := Lib.hid ((hb3.block x (Array.getElem?_eq_some_iff.1 P2.out).1).trans P2.out)
  clear hb3 hw3
  go_upto_region 5 with (fail)
  rw [← HW3.out]
  clear hcw c0 c20 c21 c22
  have c0 := KA0.out _ P3.out
  have c20 := KA20.out _ P3.out
  have c21 := KA21.out _ P3.out
  have c22 := KA22.out _ P3.out
  go_upto_region 7 with (go_at_call 59; refine (rtext_any q.name hnm _).mono ?_; rintro e w4 ⟨rfl, hb4⟩)
  have B4 := Lib.hid (B3.out.trans (belowLe B3.out.size hb4))
  have P4 := Lib.hid ((hb4.block x (Array.getElem?_eq_some_iff.1 P3.out).1).trans P3.out)
  clear hb4 c0 c20 c21 c22
  have c0 := KA0.out _ P4.out
  have c20 := KA20.out _ P4.out
  have c21 := KA21.out _ P4.out
  have c22 := KA22.out _ P4.out
  go_wp2
  go_ret
  exact ⟨by rw [HBQ.out]; rfl, B4.out⟩
set_option maxRecDepth 100000 in
set_option maxHeartbeats 4000000 in
theorem pkr_4 (q : Rq) (f l c p i : Sl) (hf : RightF q) (hrb : rightB q = true) (hk : q.op = 4) (w : World) (hr : RowsR w q.ob f l c p i) :
    Calls Try.prog 25 #[.agg (rq q f l c p i)] w fun e w' => e = .returned (.tuple #[.string (bytesRq q), .int .i64 0]) ∧ Below w.heap.size w w' := by
  obtain ⟨w1, hw1, b1, p1⟩ := one_rq w (rq q f l c p i)
  obtain ⟨x, hx⟩ : ∃ x, x = w.heap.size := ⟨_, rfl⟩
  rw [← hx] at p1
  have ka0 : ∀ V : World, V.heap[x]? = some (.cells (rq q f l c p i) 51 (0, 0)) → V.cell? ⟨x, 0, none⟩ = some (.int .i64 4) := fun V hV => by simp [World.cell?, hV, rq, hk]
  have ka20 : ∀ V : World, V.heap[x]? = some (.cells (rq q f l c p i) 51 (0, 0)) → V.cell? ⟨x, 20, none⟩ = some (.int .i64 q.kind) := fun V hV => by simp [World.cell?, hV, rq]
  have ka21 : ∀ V : World, V.heap[x]? = some (.cells (rq q f l c p i) 51 (0, 0)) → V.cell? ⟨x, 21, none⟩ = some (.string q.name) := fun V hV => by simp [World.cell?, hV, rq]
  have ka22 : ∀ V : World, V.heap[x]? = some (.cells (rq q f l c p i) 51 (0, 0)) → V.cell? ⟨x, 22, none⟩ = some (.int .i64 q.version) := fun V hV => by simp [World.cell?, hV, rq]
  have R1 := Lib.hid (hr.below b1)
  have HF := Lib.hid hf
  have HW := Lib.hid hw1
  have B1 := Lib.hid b1
  have P1 := Lib.hid p1
  have KA0 := Lib.hid ka0
  have KA20 := Lib.hid ka20
  have KA21 := Lib.hid ka21
  have KA22 := Lib.hid ka22
  have hbq : bytesRq q = bB 4 ++ bB q.kind ++ bT q.name := by unfold bytesRq; rw [if_neg (by omega), if_neg (by omega), if_pos hk, hk]
  have HBQ := Lib.hid hbq
  clear hbq
  have z0 : (bB 4).size = 1 := bB_size _
  have g1 := (hf.kind (by omega)).1
  have g2 := (hf.kind (by omega)).2
  have z1 : (bB q.kind).size = 1 := bB_size _
  have z2 : (bT q.name).size ≤ 201 := by rw [bT_size]; have := hf.name (by omega); omega
  have z3 : (num8 q.version.toNat).size = 8 := num8_size _
  have z4 : (bB 4 ++ bB q.kind).size = 2 := by rw [ByteArray.size_append, z0, z1]
  have z5 : (bB 4 ++ bB q.kind ++ bT q.name).size ≤ 203 := by rw [ByteArray.size_append]; omega
  have hnm := hf.name (by omega)
  have hv1 := (hf.version (by omega)).1
  have hv2 := (hf.version (by omega)).2
  have z6 : (bB (q.name.size : Int)).size = 1 := bB_size _
  have z7 : (bB (q.name.size : Int) ++ q.name).size ≤ 201 := by rw [ByteArray.size_append]; omega
  have hwh : wholeB 4 = false := by decide
  have HWH := Lib.hid hwh
  have HRB := Lib.hid hrb
  clear hwh hrb
  clear b1 p1 hw1 hr hf ka0 ka20 ka21 ka22 hk
  go_enter Try.func25, Try.ntmps25
  go_upto_region 1 with (fail)
  rw [← HW.out, ← hx]
  clear hx
  go_wp2_with (refine wpList_load_row rfl 51 (.tmp 1) rfl x rfl 51 _ (0, 0) _ P1.out Try.underlying51 rfl size51 ?_)
  refine (right26_any q f l c p i (rightF_len HF.out) w1 R1.out).mono ?_
  rw [HRB.out]
  rintro e w2 ⟨rfl, hb2⟩
  have B2 := Lib.hid (B1.out.trans (belowLe B1.out.size hb2))
  have P2 := Lib.hid ((hb2.block x (Array.getElem?_eq_some_iff.1 P1.out).1).trans P1.out)
  have R2 := Lib.hid (R1.out.below hb2)
  clear hb2
  go_upto_region 3 with (fail)
  have c0 := KA0.out _ P2.out
  have c20 := KA20.out _ P2.out
  have c21 := KA21.out _ P2.out
  have c22 := KA22.out _ P2.out
  go_upto_region 6 with (go_at_call 55; refine (whole_any 4 false HWH.out _).mono ?_; rintro e w4 ⟨rfl, hw4⟩; have hw5 := hw4.symm; clear hw4; subst hw5)
  obtain ⟨w3, hw3⟩ : ∃ w3, w3 = w2.alloc (.cells #[.int .u8 4, .int .u8 q.kind] 5) := ⟨_, rfl⟩
  have hb3 : Below w2.heap.size w2 w3 := by rw [hw3]; exact bel_alloc _ _
  have hcw := conv2 4 q.kind w2
  have HW3 := Lib.hid hw3
  have B3 := Lib.hid (B2.out.trans (belowLe B2.out.size hb3))
  have P3 := Lib.hid ((hb3.block x (Array.getElem?_eq_some_iff.1 P2.out).1).trans P2.out)
  clear hb3 hw3
  go_upto_region 7 with (fail)
  rw [← HW3.out]
  clear hcw c0 c20 c21 c22
  have c0 := KA0.out _ P3.out
  have c20 := KA20.out _ P3.out
  have c21 := KA21.out _ P3.out
  have c22 := KA22.out _ P3.out
  obtain ⟨w4, hw4⟩ : ∃ w4, w4 = w3.alloc (.cells #[.int .u8 (q.name.size : Int)] 5) := ⟨_, rfl⟩
  have hb4 : Below w3.heap.size w3 w4 := by rw [hw4]; exact bel_alloc _ _
  have hcw := conv1 (q.name.size : Int) _ _ (cell_new1 w3 (q.name.size : Int))
  have HW4 := Lib.hid hw4
  have B4 := Lib.hid (B3.out.trans (belowLe B3.out.size hb4))
  have P4 := Lib.hid ((hb4.block x (Array.getElem?_eq_some_iff.1 P3.out).1).trans P3.out)
  have d21 := G.cell_below (bel_alloc w3 (.cells #[.int .u8 (q.name.size : Int)] 5)) c21
  clear hb4 hw4
  go_upto_region 9 with (fail)
  rw [← HW4.out]
  clear d21 hcw c0 c20 c21 c22
  have c0 := KA0.out _ P4.out
  have c20 := KA20.out _ P4.out
  have c21 := KA21.out _ P4.out
  have c22 := KA22.out _ P4.out
  go_wp2
  go_ret2
  exact ⟨by rw [HBQ.out]; rfl, B4.out⟩
set_option maxRecDepth 100000 in
set_option maxHeartbeats 4000000 in
theorem rqb_5 (q : Rq) (f l c p i : Sl) (hf : RightF q) (hk : q.op = 5) (w : World) (hr : RowsR w q.ob f l c p i) :
    Calls Try.prog 32 #[.agg (rq q f l c p i)] w fun e w' => e = .returned (.string (bytesRq q)) ∧ Below w.heap.size w w' := by
  obtain ⟨w1, hw1, b1, p1⟩ := one_rq w (rq q f l c p i)
  obtain ⟨x, hx⟩ : ∃ x, x = w.heap.size := ⟨_, rfl⟩
  rw [← hx] at p1
  have ka0 : ∀ V : World, V.heap[x]? = some (.cells (rq q f l c p i) 51 (0, 0)) → V.cell? ⟨x, 0, none⟩ = some (.int .i64 5) := fun V hV => by simp [World.cell?, hV, rq, hk]
  have ka20 : ∀ V : World, V.heap[x]? = some (.cells (rq q f l c p i) 51 (0, 0)) → V.cell? ⟨x, 20, none⟩ = some (.int .i64 q.kind) := fun V hV => by simp [World.cell?, hV, rq]
  have ka21 : ∀ V : World, V.heap[x]? = some (.cells (rq q f l c p i) 51 (0, 0)) → V.cell? ⟨x, 21, none⟩ = some (.string q.name) := fun V hV => by simp [World.cell?, hV, rq]
  have ka22 : ∀ V : World, V.heap[x]? = some (.cells (rq q f l c p i) 51 (0, 0)) → V.cell? ⟨x, 22, none⟩ = some (.int .i64 q.version) := fun V hV => by simp [World.cell?, hV, rq]
  have R1 := Lib.hid (hr.below b1)
  have HF := Lib.hid hf
  have HW := Lib.hid hw1
  have B1 := Lib.hid b1
  have P1 := Lib.hid p1
  have KA0 := Lib.hid ka0
  have KA20 := Lib.hid ka20
  have KA21 := Lib.hid ka21
  have KA22 := Lib.hid ka22
  have hbq : bytesRq q = bB 5 ++ bB q.kind := by unfold bytesRq; rw [if_neg (by omega), if_neg (by omega), if_neg (by omega), hk]
  have HBQ := Lib.hid hbq
  clear hbq
  have z0 : (bB 5).size = 1 := bB_size _
  have g1 := (hf.kind (by omega)).1
  have g2 := (hf.kind (by omega)).2
  have z1 : (bB q.kind).size = 1 := bB_size _
  have z2 : (bT q.name).size ≤ 201 := by rw [bT_size]; have := hf.name (by omega); omega
  have z3 : (num8 q.version.toNat).size = 8 := num8_size _
  have z4 : (bB 5 ++ bB q.kind).size = 2 := by rw [ByteArray.size_append, z0, z1]
  have z5 : (bB 5 ++ bB q.kind ++ bT q.name).size ≤ 203 := by rw [ByteArray.size_append]; omega
  have hnm := hf.name (by omega)
  have hv1 := (hf.version (by omega)).1
  have hv2 := (hf.version (by omega)).2
  have z6 : (bB (q.name.size : Int)).size = 1 := bB_size _
  have z7 : (bB (q.name.size : Int) ++ q.name).size ≤ 201 := by rw [ByteArray.size_append]; omega
  obtain ⟨w2, hw2⟩ : ∃ w2, w2 = w1.alloc (.cells #[.int .u8 5] 5) := ⟨_, rfl⟩
  have hb2 : Below w1.heap.size w1 w2 := by rw [hw2]; exact bel_alloc _ _
  have hcv : (convert 67 9 (.slice (some ⟨w1.heap.size, 0, none⟩) 1 1)).run Try.prog w2 = .ok (.string (bB 5)) w2 := by rw [hw2]; exact conv1 5 _ _ (cell_new1 w1 5)
  have hcw := hcv
  rw [hw2] at hcw
  have HW2 := Lib.hid hw2
  have B2 := Lib.hid (B1.out.trans (belowLe B1.out.size hb2))
  have P2 := Lib.hid ((hb2.block x (Array.getElem?_eq_some_iff.1 P1.out).1).trans P1.out)
  have R2 := Lib.hid (R1.out.below hb2)
  clear hb2 hcv hw2
  clear b1 p1 hw1 hr hf ka0 ka20 ka21 ka22 hk
  go_enter Try.func32, Try.ntmps32
  go_upto_region 1 with (fail)
  rw [← HW.out, ← hx]
  clear hx
  have c0 := KA0.out _ P1.out
  have c20 := KA20.out _ P1.out
  have c21 := KA21.out _ P1.out
  have c22 := KA22.out _ P1.out
  go_upto_region 2 with (fail)
  rw [← HW2.out]
  clear hcw c0 c20 c21 c22
  have c0 := KA0.out _ P2.out
  have c20 := KA20.out _ P2.out
  have c21 := KA21.out _ P2.out
  have c22 := KA22.out _ P2.out
  obtain ⟨w3, hw3⟩ : ∃ w3, w3 = w2.alloc (.cells #[.int .u8 q.kind] 5) := ⟨_, rfl⟩
  have hb3 : Below w2.heap.size w2 w3 := by rw [hw3]; exact bel_alloc _ _
  have hcw : (convert 67 9 (.slice (some ⟨w2.heap.size, 0, none⟩) 1 1)).run Try.prog (w2.alloc (.cells #[.int .u8 q.kind] 5)) = .ok (.string (bB q.kind)) (w2.alloc (.cells #[.int .u8 q.kind] 5)) := conv1 q.kind _ _ (cell_new1 w2 q.kind)
  have HW3 := Lib.hid hw3
  have B3 := Lib.hid (B2.out.trans (belowLe B2.out.size hb3))
  have P3 := Lib.hid ((hb3.block x (Array.getElem?_eq_some_iff.1 P2.out).1).trans P2.out)
  clear hb3 hw3
  go_upto_region 5 with (fail)
  rw [← HW3.out]
  clear hcw c0 c20 c21 c22
  have c0 := KA0.out _ P3.out
  have c20 := KA20.out _ P3.out
  have c21 := KA21.out _ P3.out
  have c22 := KA22.out _ P3.out
  go_wp2
  go_ret
  exact ⟨by rw [HBQ.out]; rfl, B3.out⟩
theorem rqb_any (q : Rq) (f l c p i : Sl) (hf : RightF q) (w : World) (hr : RowsR w q.ob f l c p i) :
    Calls Try.prog 32 #[.agg (rq q f l c p i)] w fun e w' => e = .returned (.string (bytesRq q)) ∧ Below w.heap.size w w' := by
  have := hf.op
  rcases (by omega : q.op = 1 ∨ q.op = 2 ∨ q.op = 3 ∨ q.op = 4 ∨ q.op = 5) with h | h | h | h | h
  · exact rqb_1 q f l c p i hf h w hr
  · exact rqb_2 q f l c p i hf h w hr
  · exact rqb_3 q f l c p i hf h w hr
  · exact rqb_4 q f l c p i hf h w hr
  · exact rqb_5 q f l c p i hf h w hr
def exQ : Rq := ⟨4, zeroOb, 1, ⟨#[110]⟩, 0⟩
set_option maxRecDepth 100000 in
set_option maxHeartbeats 4000000 in
theorem awakew_any (w : World) : Calls Try.prog 24 #[] w fun e w' => e = .returned (.bool true) ∧ Below w.heap.size w w' := by
  have hrb : rightB exQ = true := by kernel_rfl
  have hp := pkr_4 exQ Sl0 Sl0 Sl0 Sl0 Sl0 (rightF hrb) hrb rfl w (RowsR.zero w)
  rw [show bytesRq exQ = ⟨#[4, 1, 1, 110]⟩ by kernel_rfl] at hp
  have HP := Lib.hid hp
  clear hp
  go_enter Try.func24, Try.ntmps24
  go_wp2_with (fail)
  refine HP.out.mono ?_
  rintro e w1 ⟨rfl, hb⟩
  go_wp2
  go_ret
  exact ⟨rfl, hb⟩
def nameS (s : ByteArray) : ByteArray := s.extract 1 (1 + (byte0 s).toNat)
def behS (s : ByteArray) : ByteArray := s.extract (1 + (byte0 s).toNat) s.size
def endS (q : Rq) (s : ByteArray) : Rq × Bool := if q.op = 3 then ({ q with version := (numOf s).1 }, decide ((numOf s).2 = 0)) else (q, decide (s.size = 0))
def restS (q : Rq) (s : ByteArray) : Rq × Bool :=
  if s.size = 0 then (q, false) else if q.op = 5 then ({ q with kind := byte0 s }, decide ((from1 s).size = 0))
  else if (from1 s).size = 0 ∨ byte0 (from1 s) > (from1 s).size - 1 then ({ q with kind := byte0 s }, false)
  else endS { q with kind := byte0 s, name := nameS (from1 s) } (behS (from1 s))
theorem BQ.drew {w0 w : World} {z x y : Nat} {cs xs ys : Array Value} (h : BQ w0 z x y cs xs ys w) : BQ w0 z x y cs xs ys w.drew := ⟨h.fz, h.fx, h.fy, G.bdrew h.b, h.ne⟩
theorem wp_storeQ {P : Program} {o : Oper} {a : Act} {w w0 : World} {K : Act → World → Prop} {Q : Exit → Act → World → Prop} {z x y : Nat} {cs xs ys : Array Value} (ty : TypeId) (p q : Operand) (ho : o.op = .store ty p q) (hd : o.dst = none)
    (j : Nat) (hx : a.eval p = .pointer (some ⟨z, j, none⟩)) (v : Value) (hv : a.eval q = v) (h1 : v.oneCell' = true) (hi : (P.info? ty).map (·.size) = some 1) (hB : BQ w0 z x y cs xs ys w) (hj : j < cs.size)
    (h : ∀ w', BQ w0 z x y (cs.setIfInBounds j v) xs ys w' → K a w') : o.wp P a w K Q := by
  unfold Oper.wp execOp
  simp only [ho, hx, hv, Instr.storeAt, Instr.sureAddr, Sem.run_bind, Sem.run_pure, Result.andThen_ok, run_storeVar_field w z j ty 51 cs v hB.fz hj hi h1]
  have e : a.put o.dst undef = a := by rw [hd]; rfl
  show K (a.put o.dst undef) _
  rw [e]
  exact h _ ⟨heap_setCell_same _ _ _ _ _ _ hB.fz, fun hzx => (Below.heap_setCell _ _ _ _ (fun e => hzx e.symm)).trans (hB.fx hzx), (Below.heap_setCell _ _ _ _ hB.ne.1).trans hB.fy, hB.b.setCell (p := ⟨z, j, none⟩) hB.ne.2 _, hB.ne⟩
theorem empty_of {s : ByteArray} (h : s.size = 0) : s.toList.isEmpty = true := by rw [size0.1 h]; decide +kernel
set_option maxRecDepth 100000 in
set_option maxHeartbeats 4000000 in
theorem rest_n (q : Rq) (f l c p i : Sl) (s : ByteArray) (hs : s.size ≤ 500000) (h0 : s.size = 0) (w : World) :
    Calls Try.prog 58 #[.agg (rq q f l c p i), .string s] w fun e w' => e = .returned (.tuple #[.agg (rq (restS q s).1 f l c p i), .bool (restS q s).2]) ∧ Below w.heap.size w w' := by
  obtain ⟨w1, hw1, b1, p1, q1⟩ := two_rqs w (rq q f l c p i) zrq
  obtain ⟨x, hx⟩ : ∃ x, x = w.heap.size := ⟨_, rfl⟩
  obtain ⟨y, hy⟩ : ∃ y, y = w.heap.size + 1 := ⟨_, rfl⟩
  rw [← hx] at p1
  rw [← hy] at q1
  have hB0 : BQ w x x y (rq q f l c p i) #[] zrq w1 := ⟨p1, fun h => absurd rfl h, q1, b1, by omega, by omega⟩
  have HB := Lib.hid hB0
  have hS : restS q s = (q, false) := by unfold restS; exact if_pos h0
  have HS := Lib.hid hS
  have HW := Lib.hid hw1
  have HY := Lib.hid hy
  have e0 : s.toList.isEmpty = true := empty_of h0
  clear b1 p1 q1 hw1 hB0 hS h0
  go_enter Try.func58, Try.ntmps58
  go_upto_region 1 with (fail)
  rw [← HW.out, ← hy, ← hx]
  clear hx hy
  have hB := HB.out
  go_upto_region 2 with (fail)
  iterate 1 (first | go_values | go_skip | go_guarded | go_step)
  refine wpList_load_row rfl 51 (.tmp 2) rfl x rfl 51 _ (0, 0) _ hB.fz Try.underlying51 rfl size51 ?_
  refine wpList_store_row rfl 51 (.tmp 4) (.tmp 11) rfl y #[.int .i64 q.op, .int .i64 q.ob.kind, .string q.ob.name, .int .i64 q.ob.uid, .int .i64 q.ob.version, .bool q.ob.deleting, .slice f.A q.ob.fins.length f.c, .slice l.A q.ob.labels.length l.c, .slice c.A q.ob.cidrs.length c.c, .string q.ob.status, .int .i64 q.ob.type, .int .i64 q.ob.policy, .slice p.A q.ob.fams.length p.c, .slice i.A q.ob.ips.length i.c, .string q.ob.v4, .string q.ob.v6, .int .i64 q.ob.bits, .string q.ob.sel, .string q.ob.about, .string q.ob.reason, .int .i64 q.kind, .string q.name, .int .i64 q.version] rfl rfl 51 _ hB.fy size51 rfl (by simp [Value.oneCell', zrq]) ?_
  have HBF := Lib.hid hB
  clear hB
  go_wp2
  refine bodyPost_ret (results_ct rfl _ _ y 51 #[.int .i64 q.op, .int .i64 q.ob.kind, .string q.ob.name, .int .i64 q.ob.uid, .int .i64 q.ob.version, .bool q.ob.deleting, .slice f.A q.ob.fins.length f.c, .slice l.A q.ob.labels.length l.c, .slice c.A q.ob.cidrs.length c.c, .string q.ob.status, .int .i64 q.ob.type, .int .i64 q.ob.policy, .slice p.A q.ob.fams.length p.c, .slice i.A q.ob.ips.length i.c, .string q.ob.v4, .string q.ob.v6, .int .i64 q.ob.bits, .string q.ob.sel, .string q.ob.about, .string q.ob.reason, .int .i64 q.kind, .string q.name, .int .i64 q.version] (0, 0) _ rfl (setRow_heap _ _ _ _ _ _ HBF.out.fy) Try.underlying51 rfl size51) rfl ⟨?_, ?_⟩
  · rw [HS.out]; rfl
  · exact HBF.out.b.trans ⟨rfl, rfl, rfl, by rw [size_setRow]; exact Nat.le_refl _, fun j hj => setRow_other _ _ _ _ (by rw [HY.out]; omega)⟩
set_option maxRecDepth 100000 in
set_option maxHeartbeats 4000000 in
theorem rest_5a (q : Rq) (f l c p i : Sl) (s : ByteArray) (hs : s.size ≤ 500000) (h0 : ¬ s.size = 0) (h5 : q.op = 5) (h1 : (from1 s).size = 0) (w : World) :
    Calls Try.prog 58 #[.agg (rq q f l c p i), .string s] w fun e w' => e = .returned (.tuple #[.agg (rq (restS q s).1 f l c p i), .bool (restS q s).2]) ∧ Below w.heap.size w w' := by
  obtain ⟨w1, hw1, b1, p1, q1⟩ := two_rqs w (rq q f l c p i) zrq
  obtain ⟨x, hx⟩ : ∃ x, x = w.heap.size := ⟨_, rfl⟩
  obtain ⟨y, hy⟩ : ∃ y, y = w.heap.size + 1 := ⟨_, rfl⟩
  rw [← hx] at p1
  rw [← hy] at q1
  have hB0 : BQ w x x y (rq q f l c p i) #[] zrq w1 := ⟨p1, fun h => absurd rfl h, q1, b1, by omega, by omega⟩
  have HB := Lib.hid hB0
  have hS : restS q s = ({ q with kind := byte0 s }, true) := by unfold restS; rw [if_neg h0, if_pos h5, decide_eq_true h1]
  have HS := Lib.hid hS
  have HW := Lib.hid hw1
  have HY := Lib.hid hy
  have e0 : s.toList.isEmpty = false := not_empty h0
  have ix := ix0 s (by omega)
  have hl1 := sl1 s 1 1 rfl (by omega)
  have hz1 : (from1 s).size = s.size - 1 := by unfold from1; rw [ByteArray.size_extract]; omega
  have e1 : (from1 s).toList.isEmpty = true := empty_of h1
  have g0 := byte0_lt s
  have g1 := g0.1
  have g2 := g0.2
  have wx : IntKind.i64.wrap (byte0 s) = byte0 s := (by rw [IntKind.wrap_i64]; omega)
  have k5 : (q.op != 5) = false := by simp [h5]
  have k3 : (q.op == 3) = false := by rw [h5]; rfl
  obtain ⟨r1, hs1⟩ : ∃ r1, r1 = from1 s := ⟨_, rfl⟩
  have hl2 : ∀ W, (Instr.slice 9 (.string s) (some (.int .i64 1)) none none).run Try.prog W = .ok (.string (from1 s)) W := hl1
  clear hl1
  obtain ⟨k0, hk0⟩ : ∃ k0, k0 = byte0 s := ⟨_, rfl⟩
  clear b1 p1 q1 hw1 hB0 hS h0 h1 hz1 h5 g0
  simp only [← hk0, ← hs1] at HS ix hl2 e1 g1 g2 wx
  clear hk0 hs1
  go_enter Try.func58, Try.ntmps58
  go_upto_region 1 with (fail)
  rw [← HW.out, ← hy, ← hx]
  clear hx hy
  go_upto_region 3 with (fail)
  refine wp_region_held_drew (S := fun _ => True) (by kernel_rfl) trivial (fun hS0 => ?_)
  refine tk 0 12 (.string s) ?_; (try simp only [s1, s2, s3]); refine tk 1 13 (.int .u8 k0) ?_; (try simp only [s1, s2, s3]); refine tk 2 14 (.int .i64 k0) ?_; (try simp only [s1, s2, s3]); refine tk 3 15 (.string s) ?_; (try simp only [s1, s2, s3]); refine tk 4 16 (.string r1) ?_; (try simp only [s1, s2, s3]); refine tk 5 17 (.pointer (some ⟨x, 20, none⟩)) ?_; (try simp only [s1, s2, s3])
  refine wpAnyH_ready (rs := [6]) (by kernel_rfl) (by simp) ?_
  refine AllReadyH.cons rfl (fun K hK => ?_) ?_
  · rw [if_pos (by rfl)]
    refine wp_storeQ 3 (.tmp 17) (.tmp 14) rfl rfl 20 (by (go_simp; try rfl)) (.int .i64 k0) (by (go_simp; try rfl)) rfl (by kernel_rfl) HB.out.drew (Nat.lt_of_sub_eq_succ rfl) ?_
    intro w3 hB0
    have hB3 : BQ w x x y #[.int .i64 q.op, .int .i64 q.ob.kind, .string q.ob.name, .int .i64 q.ob.uid, .int .i64 q.ob.version, .bool q.ob.deleting, .slice f.A q.ob.fins.length f.c, .slice l.A q.ob.labels.length l.c, .slice c.A q.ob.cidrs.length c.c, .string q.ob.status, .int .i64 q.ob.type, .int .i64 q.ob.policy, .slice p.A q.ob.fams.length p.c, .slice i.A q.ob.ips.length i.c, .string q.ob.v4, .string q.ob.v6, .int .i64 q.ob.bits, .string q.ob.sel, .string q.ob.about, .string q.ob.reason, .int .i64 k0, .string q.name, .int .i64 q.version] #[] zrq w3 := hB0
    clear hB0
    refine hK.out _ _ (trivial) (fun hHeld => ?_)
    clear hK K; try simp only [Act.put, s1, s2, s3]
    refine tk 7 1 (.string r1) ?_; (try simp only [s1, s2, s3])
    refine wpAnyH_done (by kernel_rfl) ?_ _
    repeat clear hHeld
    clear hS0
    have hB := hB3
    have c0 : w3.cell? ⟨x, 0, none⟩ = some (.int .i64 q.op) := by simp [World.cell?, hB3.fz]
    have HB3 := Lib.hid hB3
    clear hB3
    have HBx := Lib.hid hB
    clear hB
    go_upto_region 13 with (fail)
    have hB := HBx.out
    clear c0
    iterate 1 (first | go_values | go_skip | go_guarded | go_step)
    refine wpList_load_row rfl 51 (.tmp 2) rfl x rfl 51 _ (0, 0) _ hB.fz Try.underlying51 rfl size51 ?_
    iterate 6 (first | go_values | go_skip | go_guarded | go_step)
    refine wpList_store_row rfl 51 (.tmp 4) (.tmp 58) rfl y #[.int .i64 q.op, .int .i64 q.ob.kind, .string q.ob.name, .int .i64 q.ob.uid, .int .i64 q.ob.version, .bool q.ob.deleting, .slice f.A q.ob.fins.length f.c, .slice l.A q.ob.labels.length l.c, .slice c.A q.ob.cidrs.length c.c, .string q.ob.status, .int .i64 q.ob.type, .int .i64 q.ob.policy, .slice p.A q.ob.fams.length p.c, .slice i.A q.ob.ips.length i.c, .string q.ob.v4, .string q.ob.v6, .int .i64 q.ob.bits, .string q.ob.sel, .string q.ob.about, .string q.ob.reason, .int .i64 k0, .string q.name, .int .i64 q.version] rfl rfl 51 _ hB.fy size51 rfl (by simp [Value.oneCell', zrq]) ?_
    have HBF := Lib.hid hB
    clear hB
    go_wp2
    refine bodyPost_ret (results_ct rfl _ _ y 51 #[.int .i64 q.op, .int .i64 q.ob.kind, .string q.ob.name, .int .i64 q.ob.uid, .int .i64 q.ob.version, .bool q.ob.deleting, .slice f.A q.ob.fins.length f.c, .slice l.A q.ob.labels.length l.c, .slice c.A q.ob.cidrs.length c.c, .string q.ob.status, .int .i64 q.ob.type, .int .i64 q.ob.policy, .slice p.A q.ob.fams.length p.c, .slice i.A q.ob.ips.length i.c, .string q.ob.v4, .string q.ob.v6, .int .i64 q.ob.bits, .string q.ob.sel, .string q.ob.about, .string q.ob.reason, .int .i64 k0, .string q.name, .int .i64 q.version] (0, 0) _ rfl (setRow_heap _ _ _ _ _ _ HBF.out.fy) Try.underlying51 rfl size51) rfl ⟨?_, ?_⟩
    · rw [HS.out]; rfl
    · exact HBF.out.b.trans ⟨rfl, rfl, rfl, by rw [size_setRow]; exact Nat.le_refl _, fun j hj => setRow_other _ _ _ _ (by rw [HY.out]; omega)⟩
  exact AllReadyH.nil
set_option maxRecDepth 100000 in
set_option maxHeartbeats 4000000 in
theorem rest_5b (q : Rq) (f l c p i : Sl) (s : ByteArray) (hs : s.size ≤ 500000) (h0 : ¬ s.size = 0) (h5 : q.op = 5) (h1 : ¬ (from1 s).size = 0) (w : World) :
    Calls Try.prog 58 #[.agg (rq q f l c p i), .string s] w fun e w' => e = .returned (.tuple #[.agg (rq (restS q s).1 f l c p i), .bool (restS q s).2]) ∧ Below w.heap.size w w' := by
  obtain ⟨w1, hw1, b1, p1, q1⟩ := two_rqs w (rq q f l c p i) zrq
  obtain ⟨x, hx⟩ : ∃ x, x = w.heap.size := ⟨_, rfl⟩
  obtain ⟨y, hy⟩ : ∃ y, y = w.heap.size + 1 := ⟨_, rfl⟩
  rw [← hx] at p1
  rw [← hy] at q1
  have hB0 : BQ w x x y (rq q f l c p i) #[] zrq w1 := ⟨p1, fun h => absurd rfl h, q1, b1, by omega, by omega⟩
  have HB := Lib.hid hB0
  have hS : restS q s = ({ q with kind := byte0 s }, false) := by unfold restS; rw [if_neg h0, if_pos h5, decide_eq_false h1]
  have HS := Lib.hid hS
  have HW := Lib.hid hw1
  have HY := Lib.hid hy
  have e0 : s.toList.isEmpty = false := not_empty h0
  have ix := ix0 s (by omega)
  have hl1 := sl1 s 1 1 rfl (by omega)
  have hz1 : (from1 s).size = s.size - 1 := by unfold from1; rw [ByteArray.size_extract]; omega
  have e1 : (from1 s).toList.isEmpty = false := not_empty h1
  have g0 := byte0_lt s
  have g1 := g0.1
  have g2 := g0.2
  have wx : IntKind.i64.wrap (byte0 s) = byte0 s := (by rw [IntKind.wrap_i64]; omega)
  have k5 : (q.op != 5) = false := by simp [h5]
  have k3 : (q.op == 3) = false := by rw [h5]; rfl
  obtain ⟨r1, hs1⟩ : ∃ r1, r1 = from1 s := ⟨_, rfl⟩
  have hl2 : ∀ W, (Instr.slice 9 (.string s) (some (.int .i64 1)) none none).run Try.prog W = .ok (.string (from1 s)) W := hl1
  clear hl1
  obtain ⟨k0, hk0⟩ : ∃ k0, k0 = byte0 s := ⟨_, rfl⟩
  clear b1 p1 q1 hw1 hB0 hS h0 h1 hz1 h5 g0
  simp only [← hk0, ← hs1] at HS ix hl2 e1 g1 g2 wx
  clear hk0 hs1
  go_enter Try.func58, Try.ntmps58
  go_upto_region 1 with (fail)
  rw [← HW.out, ← hy, ← hx]
  clear hx hy
  go_upto_region 3 with (fail)
  refine wp_region_held_drew (S := fun _ => True) (by kernel_rfl) trivial (fun hS0 => ?_)
  refine tk 0 12 (.string s) ?_; (try simp only [s1, s2, s3]); refine tk 1 13 (.int .u8 k0) ?_; (try simp only [s1, s2, s3]); refine tk 2 14 (.int .i64 k0) ?_; (try simp only [s1, s2, s3]); refine tk 3 15 (.string s) ?_; (try simp only [s1, s2, s3]); refine tk 4 16 (.string r1) ?_; (try simp only [s1, s2, s3]); refine tk 5 17 (.pointer (some ⟨x, 20, none⟩)) ?_; (try simp only [s1, s2, s3])
  refine wpAnyH_ready (rs := [6]) (by kernel_rfl) (by simp) ?_
  refine AllReadyH.cons rfl (fun K hK => ?_) ?_
  · rw [if_pos (by rfl)]
    refine wp_storeQ 3 (.tmp 17) (.tmp 14) rfl rfl 20 (by (go_simp; try rfl)) (.int .i64 k0) (by (go_simp; try rfl)) rfl (by kernel_rfl) HB.out.drew (Nat.lt_of_sub_eq_succ rfl) ?_
    intro w3 hB0
    have hB3 : BQ w x x y #[.int .i64 q.op, .int .i64 q.ob.kind, .string q.ob.name, .int .i64 q.ob.uid, .int .i64 q.ob.version, .bool q.ob.deleting, .slice f.A q.ob.fins.length f.c, .slice l.A q.ob.labels.length l.c, .slice c.A q.ob.cidrs.length c.c, .string q.ob.status, .int .i64 q.ob.type, .int .i64 q.ob.policy, .slice p.A q.ob.fams.length p.c, .slice i.A q.ob.ips.length i.c, .string q.ob.v4, .string q.ob.v6, .int .i64 q.ob.bits, .string q.ob.sel, .string q.ob.about, .string q.ob.reason, .int .i64 k0, .string q.name, .int .i64 q.version] #[] zrq w3 := hB0
    clear hB0
    refine hK.out _ _ (trivial) (fun hHeld => ?_)
    clear hK K; try simp only [Act.put, s1, s2, s3]
    refine tk 7 1 (.string r1) ?_; (try simp only [s1, s2, s3])
    refine wpAnyH_done (by kernel_rfl) ?_ _
    repeat clear hHeld
    clear hS0
    have hB := hB3
    have c0 : w3.cell? ⟨x, 0, none⟩ = some (.int .i64 q.op) := by simp [World.cell?, hB3.fz]
    have HB3 := Lib.hid hB3
    clear hB3
    have HBx := Lib.hid hB
    clear hB
    go_upto_region 13 with (fail)
    have hB := HBx.out
    clear c0
    iterate 1 (first | go_values | go_skip | go_guarded | go_step)
    refine wpList_load_row rfl 51 (.tmp 2) rfl x rfl 51 _ (0, 0) _ hB.fz Try.underlying51 rfl size51 ?_
    iterate 6 (first | go_values | go_skip | go_guarded | go_step)
    refine wpList_store_row rfl 51 (.tmp 4) (.tmp 58) rfl y #[.int .i64 q.op, .int .i64 q.ob.kind, .string q.ob.name, .int .i64 q.ob.uid, .int .i64 q.ob.version, .bool q.ob.deleting, .slice f.A q.ob.fins.length f.c, .slice l.A q.ob.labels.length l.c, .slice c.A q.ob.cidrs.length c.c, .string q.ob.status, .int .i64 q.ob.type, .int .i64 q.ob.policy, .slice p.A q.ob.fams.length p.c, .slice i.A q.ob.ips.length i.c, .string q.ob.v4, .string q.ob.v6, .int .i64 q.ob.bits, .string q.ob.sel, .string q.ob.about, .string q.ob.reason, .int .i64 k0, .string q.name, .int .i64 q.version] rfl rfl 51 _ hB.fy size51 rfl (by simp [Value.oneCell', zrq]) ?_
    have HBF := Lib.hid hB
    clear hB
    go_wp2
    refine bodyPost_ret (results_ct rfl _ _ y 51 #[.int .i64 q.op, .int .i64 q.ob.kind, .string q.ob.name, .int .i64 q.ob.uid, .int .i64 q.ob.version, .bool q.ob.deleting, .slice f.A q.ob.fins.length f.c, .slice l.A q.ob.labels.length l.c, .slice c.A q.ob.cidrs.length c.c, .string q.ob.status, .int .i64 q.ob.type, .int .i64 q.ob.policy, .slice p.A q.ob.fams.length p.c, .slice i.A q.ob.ips.length i.c, .string q.ob.v4, .string q.ob.v6, .int .i64 q.ob.bits, .string q.ob.sel, .string q.ob.about, .string q.ob.reason, .int .i64 k0, .string q.name, .int .i64 q.version] (0, 0) _ rfl (setRow_heap _ _ _ _ _ _ HBF.out.fy) Try.underlying51 rfl size51) rfl ⟨?_, ?_⟩
    · rw [HS.out]; rfl
    · exact HBF.out.b.trans ⟨rfl, rfl, rfl, by rw [size_setRow]; exact Nat.le_refl _, fun j hj => setRow_other _ _ _ _ (by rw [HY.out]; omega)⟩
  exact AllReadyH.nil
set_option maxRecDepth 100000 in
set_option maxHeartbeats 4000000 in
theorem rest_e (q : Rq) (f l c p i : Sl) (s : ByteArray) (hs : s.size ≤ 500000) (h0 : ¬ s.size = 0) (h5 : ¬ q.op = 5) (h1 : (from1 s).size = 0) (w : World) :
    Calls Try.prog 58 #[.agg (rq q f l c p i), .string s] w fun e w' => e = .returned (.tuple #[.agg (rq (restS q s).1 f l c p i), .bool (restS q s).2]) ∧ Below w.heap.size w w' := by
  obtain ⟨w1, hw1, b1, p1, q1⟩ := two_rqs w (rq q f l c p i) zrq
  obtain ⟨x, hx⟩ : ∃ x, x = w.heap.size := ⟨_, rfl⟩
  obtain ⟨y, hy⟩ : ∃ y, y = w.heap.size + 1 := ⟨_, rfl⟩
  rw [← hx] at p1
  rw [← hy] at q1
  have hB0 : BQ w x x y (rq q f l c p i) #[] zrq w1 := ⟨p1, fun h => absurd rfl h, q1, b1, by omega, by omega⟩
  have HB := Lib.hid hB0
  have hS : restS q s = ({ q with kind := byte0 s }, false) := by unfold restS; rw [if_neg h0, if_neg h5, if_pos (.inl h1)]
  have HS := Lib.hid hS
  have HW := Lib.hid hw1
  have HY := Lib.hid hy
  have e0 : s.toList.isEmpty = false := not_empty h0
  have ix := ix0 s (by omega)
  have hl1 := sl1 s 1 1 rfl (by omega)
  have hz1 : (from1 s).size = s.size - 1 := by unfold from1; rw [ByteArray.size_extract]; omega
  have e1 : (from1 s).toList.isEmpty = true := empty_of h1
  have g0 := byte0_lt s
  have g1 := g0.1
  have g2 := g0.2
  have wx : IntKind.i64.wrap (byte0 s) = byte0 s := (by rw [IntKind.wrap_i64]; omega)
  have k5 : (q.op != 5) = true := by simpa using h5
  obtain ⟨r1, hs1⟩ : ∃ r1, r1 = from1 s := ⟨_, rfl⟩
  have hl2 : ∀ W, (Instr.slice 9 (.string s) (some (.int .i64 1)) none none).run Try.prog W = .ok (.string (from1 s)) W := hl1
  clear hl1
  obtain ⟨k0, hk0⟩ : ∃ k0, k0 = byte0 s := ⟨_, rfl⟩
  clear b1 p1 q1 hw1 hB0 hS h0 h1 hz1 h5 g0
  simp only [← hk0, ← hs1] at HS ix hl2 e1 g1 g2 wx
  clear hk0 hs1
  go_enter Try.func58, Try.ntmps58
  go_upto_region 1 with (fail)
  rw [← HW.out, ← hy, ← hx]
  clear hx hy
  go_upto_region 3 with (fail)
  refine wp_region_held_drew (S := fun _ => True) (by kernel_rfl) trivial (fun hS0 => ?_)
  refine tk 0 12 (.string s) ?_; (try simp only [s1, s2, s3]); refine tk 1 13 (.int .u8 k0) ?_; (try simp only [s1, s2, s3]); refine tk 2 14 (.int .i64 k0) ?_; (try simp only [s1, s2, s3]); refine tk 3 15 (.string s) ?_; (try simp only [s1, s2, s3]); refine tk 4 16 (.string r1) ?_; (try simp only [s1, s2, s3]); refine tk 5 17 (.pointer (some ⟨x, 20, none⟩)) ?_; (try simp only [s1, s2, s3])
  refine wpAnyH_ready (rs := [6]) (by kernel_rfl) (by simp) ?_
  refine AllReadyH.cons rfl (fun K hK => ?_) ?_
  · rw [if_pos (by rfl)]
    refine wp_storeQ 3 (.tmp 17) (.tmp 14) rfl rfl 20 (by (go_simp; try rfl)) (.int .i64 k0) (by (go_simp; try rfl)) rfl (by kernel_rfl) HB.out.drew (Nat.lt_of_sub_eq_succ rfl) ?_
    intro w3 hB0
    have hB3 : BQ w x x y #[.int .i64 q.op, .int .i64 q.ob.kind, .string q.ob.name, .int .i64 q.ob.uid, .int .i64 q.ob.version, .bool q.ob.deleting, .slice f.A q.ob.fins.length f.c, .slice l.A q.ob.labels.length l.c, .slice c.A q.ob.cidrs.length c.c, .string q.ob.status, .int .i64 q.ob.type, .int .i64 q.ob.policy, .slice p.A q.ob.fams.length p.c, .slice i.A q.ob.ips.length i.c, .string q.ob.v4, .string q.ob.v6, .int .i64 q.ob.bits, .string q.ob.sel, .string q.ob.about, .string q.ob.reason, .int .i64 k0, .string q.name, .int .i64 q.version] #[] zrq w3 := hB0
    clear hB0
    refine hK.out _ _ (trivial) (fun hHeld => ?_)
    clear hK K; try simp only [Act.put, s1, s2, s3]
    refine tk 7 1 (.string r1) ?_; (try simp only [s1, s2, s3])
    refine wpAnyH_done (by kernel_rfl) ?_ _
    repeat clear hHeld
    clear hS0
    have hB := hB3
    have c0 : w3.cell? ⟨x, 0, none⟩ = some (.int .i64 q.op) := by simp [World.cell?, hB3.fz]
    have HB3 := Lib.hid hB3
    clear hB3
    have HBx := Lib.hid hB
    clear hB
    go_upto_region 6 with (fail)
    have hB := HBx.out
    clear c0
    iterate 1 (first | go_values | go_skip | go_guarded | go_step)
    refine wpList_load_row rfl 51 (.tmp 2) rfl x rfl 51 _ (0, 0) _ hB.fz Try.underlying51 rfl size51 ?_
    refine wpList_store_row rfl 51 (.tmp 4) (.tmp 32) rfl y #[.int .i64 q.op, .int .i64 q.ob.kind, .string q.ob.name, .int .i64 q.ob.uid, .int .i64 q.ob.version, .bool q.ob.deleting, .slice f.A q.ob.fins.length f.c, .slice l.A q.ob.labels.length l.c, .slice c.A q.ob.cidrs.length c.c, .string q.ob.status, .int .i64 q.ob.type, .int .i64 q.ob.policy, .slice p.A q.ob.fams.length p.c, .slice i.A q.ob.ips.length i.c, .string q.ob.v4, .string q.ob.v6, .int .i64 q.ob.bits, .string q.ob.sel, .string q.ob.about, .string q.ob.reason, .int .i64 k0, .string q.name, .int .i64 q.version] rfl rfl 51 _ hB.fy size51 rfl (by simp [Value.oneCell', zrq]) ?_
    have HBF := Lib.hid hB
    clear hB
    go_wp2
    refine bodyPost_ret (results_ct rfl _ _ y 51 #[.int .i64 q.op, .int .i64 q.ob.kind, .string q.ob.name, .int .i64 q.ob.uid, .int .i64 q.ob.version, .bool q.ob.deleting, .slice f.A q.ob.fins.length f.c, .slice l.A q.ob.labels.length l.c, .slice c.A q.ob.cidrs.length c.c, .string q.ob.status, .int .i64 q.ob.type, .int .i64 q.ob.policy, .slice p.A q.ob.fams.length p.c, .slice i.A q.ob.ips.length i.c, .string q.ob.v4, .string q.ob.v6, .int .i64 q.ob.bits, .string q.ob.sel, .string q.ob.about, .string q.ob.reason, .int .i64 k0, .string q.name, .int .i64 q.version] (0, 0) _ rfl (setRow_heap _ _ _ _ _ _ HBF.out.fy) Try.underlying51 rfl size51) rfl ⟨?_, ?_⟩
    · rw [HS.out]; rfl
    · exact HBF.out.b.trans ⟨rfl, rfl, rfl, by rw [size_setRow]; exact Nat.le_refl _, fun j hj => setRow_other _ _ _ _ (by rw [HY.out]; omega)⟩
  exact AllReadyH.nil
set_option maxRecDepth 100000 in
set_option maxHeartbeats 4000000 in
theorem rest_l (q : Rq) (f l c p i : Sl) (s : ByteArray) (hs : s.size ≤ 500000) (h0 : ¬ s.size = 0) (h5 : ¬ q.op = 5) (h1 : ¬ (from1 s).size = 0) (h2 : byte0 (from1 s) > (from1 s).size - 1) (w : World) :
    Calls Try.prog 58 #[.agg (rq q f l c p i), .string s] w fun e w' => e = .returned (.tuple #[.agg (rq (restS q s).1 f l c p i), .bool (restS q s).2]) ∧ Below w.heap.size w w' := by
  obtain ⟨w1, hw1, b1, p1, q1⟩ := two_rqs w (rq q f l c p i) zrq
  obtain ⟨x, hx⟩ : ∃ x, x = w.heap.size := ⟨_, rfl⟩
  obtain ⟨y, hy⟩ : ∃ y, y = w.heap.size + 1 := ⟨_, rfl⟩
  rw [← hx] at p1
  rw [← hy] at q1
  have hB0 : BQ w x x y (rq q f l c p i) #[] zrq w1 := ⟨p1, fun h => absurd rfl h, q1, b1, by omega, by omega⟩
  have HB := Lib.hid hB0
  have hS : restS q s = ({ q with kind := byte0 s }, false) := by unfold restS; rw [if_neg h0, if_neg h5, if_pos (.inr h2)]
  have HS := Lib.hid hS
  have HW := Lib.hid hw1
  have HY := Lib.hid hy
  have e0 : s.toList.isEmpty = false := not_empty h0
  have ix := ix0 s (by omega)
  have hl1 := sl1 s 1 1 rfl (by omega)
  have hz1 : (from1 s).size = s.size - 1 := by unfold from1; rw [ByteArray.size_extract]; omega
  have e1 : (from1 s).toList.isEmpty = false := not_empty h1
  have iy := ix0 (from1 s) (by omega)
  have g4 := byte0_lt (from1 s)
  have g5 := g4.1
  have g6 := g4.2
  have wy : IntKind.i64.wrap (byte0 (from1 s)) = byte0 (from1 s) := (by rw [IntKind.wrap_i64]; omega)
  have d2 : decide ((from1 s).size - 1 < byte0 (from1 s)) = true := decide_eq_true (by omega)
  have wz : IntKind.i64.wrap (1 + byte0 (from1 s)) = 1 + byte0 (from1 s) := (by rw [IntKind.wrap_i64]; omega)
  have hz2 : (1 : Int) ≤ (from1 s).size := by omega
  have hz3 : ((from1 s).size : Int) ≤ 500000 := by omega
  have g0 := byte0_lt s
  have g1 := g0.1
  have g2 := g0.2
  have wx : IntKind.i64.wrap (byte0 s) = byte0 s := (by rw [IntKind.wrap_i64]; omega)
  have k5 : (q.op != 5) = true := by simpa using h5
  obtain ⟨r1, hs1⟩ : ∃ r1, r1 = from1 s := ⟨_, rfl⟩
  have hl2 : ∀ W, (Instr.slice 9 (.string s) (some (.int .i64 1)) none none).run Try.prog W = .ok (.string (from1 s)) W := hl1
  clear hl1
  obtain ⟨k1, hk1⟩ : ∃ k1, k1 = byte0 (from1 s) := ⟨_, rfl⟩
  obtain ⟨k0, hk0⟩ : ∃ k0, k0 = byte0 s := ⟨_, rfl⟩
  clear b1 p1 q1 hw1 hB0 hS h0 h1 hz1 h2 g4 h5 g0
  simp only [← hk1] at HS ix hl2 e1 g1 g2 wx iy g5 g6 wy wz d2 hz2 hz3
  simp only [← hk0, ← hs1] at HS ix hl2 e1 g1 g2 wx iy g5 g6 wy wz d2 hz2 hz3
  clear hk0 hk1 hs1
  go_enter Try.func58, Try.ntmps58
  go_upto_region 1 with (fail)
  rw [← HW.out, ← hy, ← hx]
  clear hx hy
  go_upto_region 3 with (fail)
  refine wp_region_held_drew (S := fun _ => True) (by kernel_rfl) trivial (fun hS0 => ?_)
  refine tk 0 12 (.string s) ?_; (try simp only [s1, s2, s3]); refine tk 1 13 (.int .u8 k0) ?_; (try simp only [s1, s2, s3]); refine tk 2 14 (.int .i64 k0) ?_; (try simp only [s1, s2, s3]); refine tk 3 15 (.string s) ?_; (try simp only [s1, s2, s3]); refine tk 4 16 (.string r1) ?_; (try simp only [s1, s2, s3]); refine tk 5 17 (.pointer (some ⟨x, 20, none⟩)) ?_; (try simp only [s1, s2, s3])
  refine wpAnyH_ready (rs := [6]) (by kernel_rfl) (by simp) ?_
  refine AllReadyH.cons rfl (fun K hK => ?_) ?_
  · rw [if_pos (by rfl)]
    refine wp_storeQ 3 (.tmp 17) (.tmp 14) rfl rfl 20 (by (go_simp; try rfl)) (.int .i64 k0) (by (go_simp; try rfl)) rfl (by kernel_rfl) HB.out.drew (Nat.lt_of_sub_eq_succ rfl) ?_
    intro w3 hB0
    have hB3 : BQ w x x y #[.int .i64 q.op, .int .i64 q.ob.kind, .string q.ob.name, .int .i64 q.ob.uid, .int .i64 q.ob.version, .bool q.ob.deleting, .slice f.A q.ob.fins.length f.c, .slice l.A q.ob.labels.length l.c, .slice c.A q.ob.cidrs.length c.c, .string q.ob.status, .int .i64 q.ob.type, .int .i64 q.ob.policy, .slice p.A q.ob.fams.length p.c, .slice i.A q.ob.ips.length i.c, .string q.ob.v4, .string q.ob.v6, .int .i64 q.ob.bits, .string q.ob.sel, .string q.ob.about, .string q.ob.reason, .int .i64 k0, .string q.name, .int .i64 q.version] #[] zrq w3 := hB0
    clear hB0
    refine hK.out _ _ (trivial) (fun hHeld => ?_)
    clear hK K; try simp only [Act.put, s1, s2, s3]
    refine tk 7 1 (.string r1) ?_; (try simp only [s1, s2, s3])
    refine wpAnyH_done (by kernel_rfl) ?_ _
    repeat clear hHeld
    clear hS0
    have hB := hB3
    have c0 : w3.cell? ⟨x, 0, none⟩ = some (.int .i64 q.op) := by simp [World.cell?, hB3.fz]
    have HB3 := Lib.hid hB3
    clear hB3
    have HBx := Lib.hid hB
    clear hB
    go_upto_region 6 with (fail)
    have hB := HBx.out
    clear c0
    iterate 1 (first | go_values | go_skip | go_guarded | go_step)
    refine wpList_load_row rfl 51 (.tmp 2) rfl x rfl 51 _ (0, 0) _ hB.fz Try.underlying51 rfl size51 ?_
    refine wpList_store_row rfl 51 (.tmp 4) (.tmp 32) rfl y #[.int .i64 q.op, .int .i64 q.ob.kind, .string q.ob.name, .int .i64 q.ob.uid, .int .i64 q.ob.version, .bool q.ob.deleting, .slice f.A q.ob.fins.length f.c, .slice l.A q.ob.labels.length l.c, .slice c.A q.ob.cidrs.length c.c, .string q.ob.status, .int .i64 q.ob.type, .int .i64 q.ob.policy, .slice p.A q.ob.fams.length p.c, .slice i.A q.ob.ips.length i.c, .string q.ob.v4, .string q.ob.v6, .int .i64 q.ob.bits, .string q.ob.sel, .string q.ob.about, .string q.ob.reason, .int .i64 k0, .string q.name, .int .i64 q.version] rfl rfl 51 _ hB.fy size51 rfl (by simp [Value.oneCell', zrq]) ?_
    have HBF := Lib.hid hB
    clear hB
    go_wp2
    refine bodyPost_ret (results_ct rfl _ _ y 51 #[.int .i64 q.op, .int .i64 q.ob.kind, .string q.ob.name, .int .i64 q.ob.uid, .int .i64 q.ob.version, .bool q.ob.deleting, .slice f.A q.ob.fins.length f.c, .slice l.A q.ob.labels.length l.c, .slice c.A q.ob.cidrs.length c.c, .string q.ob.status, .int .i64 q.ob.type, .int .i64 q.ob.policy, .slice p.A q.ob.fams.length p.c, .slice i.A q.ob.ips.length i.c, .string q.ob.v4, .string q.ob.v6, .int .i64 q.ob.bits, .string q.ob.sel, .string q.ob.about, .string q.ob.reason, .int .i64 k0, .string q.name, .int .i64 q.version] (0, 0) _ rfl (setRow_heap _ _ _ _ _ _ HBF.out.fy) Try.underlying51 rfl size51) rfl ⟨?_, ?_⟩
    · rw [HS.out]; rfl
    · exact HBF.out.b.trans ⟨rfl, rfl, rfl, by rw [size_setRow]; exact Nat.le_refl _, fun j hj => setRow_other _ _ _ _ (by rw [HY.out]; omega)⟩
  exact AllReadyH.nil
set_option maxRecDepth 100000 in
set_option maxHeartbeats 4000000 in
theorem rest_3 (q : Rq) (f l c p i : Sl) (s : ByteArray) (hs : s.size ≤ 500000) (h0 : ¬ s.size = 0) (h5 : ¬ q.op = 5) (h1 : ¬ (from1 s).size = 0) (h2 : ¬ byte0 (from1 s) > (from1 s).size - 1) (h3 : q.op = 3) (w : World) :
    Calls Try.prog 58 #[.agg (rq q f l c p i), .string s] w fun e w' => e = .returned (.tuple #[.agg (rq (restS q s).1 f l c p i), .bool (restS q s).2]) ∧ Below w.heap.size w w' := by
  obtain ⟨w1, hw1, b1, p1, q1⟩ := two_rqs w (rq q f l c p i) zrq
  obtain ⟨x, hx⟩ : ∃ x, x = w.heap.size := ⟨_, rfl⟩
  obtain ⟨y, hy⟩ : ∃ y, y = w.heap.size + 1 := ⟨_, rfl⟩
  rw [← hx] at p1
  rw [← hy] at q1
  have hB0 : BQ w x x y (rq q f l c p i) #[] zrq w1 := ⟨p1, fun h => absurd rfl h, q1, b1, by omega, by omega⟩
  have HB := Lib.hid hB0
  have hS : restS q s = ({ q with kind := byte0 s, name := nameS (from1 s), version := (numOf (behS (from1 s))).1 }, decide ((numOf (behS (from1 s))).2 = 0)) := by unfold restS; rw [if_neg h0, if_neg h5, if_neg (by rintro (h | h); exact h1 h; exact h2 h)]; exact if_pos h3
  have HS := Lib.hid hS
  have HW := Lib.hid hw1
  have HY := Lib.hid hy
  have e0 : s.toList.isEmpty = false := not_empty h0
  have ix := ix0 s (by omega)
  have hl1 := sl1 s 1 1 rfl (by omega)
  have hz1 : (from1 s).size = s.size - 1 := by unfold from1; rw [ByteArray.size_extract]; omega
  have e1 : (from1 s).toList.isEmpty = false := not_empty h1
  have iy := ix0 (from1 s) (by omega)
  have g4 := byte0_lt (from1 s)
  have g5 := g4.1
  have g6 := g4.2
  have wy : IntKind.i64.wrap (byte0 (from1 s)) = byte0 (from1 s) := (by rw [IntKind.wrap_i64]; omega)
  have d2 : decide ((from1 s).size - 1 < byte0 (from1 s)) = false := decide_eq_false (by omega)
  have wz : IntKind.i64.wrap (1 + byte0 (from1 s)) = 1 + byte0 (from1 s) := (by rw [IntKind.wrap_i64]; omega)
  have hz2 : (1 : Int) ≤ (from1 s).size := by omega
  have hz3 : ((from1 s).size : Int) ≤ 500000 := by omega
  have hm : byte0 (from1 s) = ((byte0 (from1 s)).toNat : Int) := by omega
  have ln : ∀ W, (Instr.slice 9 (.string (from1 s)) (some (.int .i64 1)) (some (.int .i64 (1 + byte0 (from1 s)))) none).run Try.prog W = .ok (.string (nameS (from1 s))) W := slc (from1 s) 1 (1 + byte0 (from1 s)) 1 (1 + (byte0 (from1 s)).toNat) rfl (by omega) (by omega) (by omega)
  have lb : ∀ W, (Instr.slice 9 (.string (from1 s)) (some (.int .i64 (1 + byte0 (from1 s)))) none none).run Try.prog W = .ok (.string (behS (from1 s))) W := sl1 (from1 s) (1 + byte0 (from1 s)) (1 + (byte0 (from1 s)).toNat) (by omega) (by omega)
  have hzb : (behS (from1 s)).size ≤ 500000 := by unfold behS; rw [ByteArray.size_extract]; omega
  have CN := Lib.hid (fun V => numof_any (behS (from1 s)) (by omega) V)
  have g0 := byte0_lt s
  have g1 := g0.1
  have g2 := g0.2
  have wx : IntKind.i64.wrap (byte0 s) = byte0 s := (by rw [IntKind.wrap_i64]; omega)
  have k5 : (q.op != 5) = true := by simpa using h5
  have k3 : (q.op == 3) = true := by simp [h3]
  obtain ⟨r1, hs1⟩ : ∃ r1, r1 = from1 s := ⟨_, rfl⟩
  have hl2 : ∀ W, (Instr.slice 9 (.string s) (some (.int .i64 1)) none none).run Try.prog W = .ok (.string (from1 s)) W := hl1
  clear hl1
  obtain ⟨nm, hnm⟩ : ∃ nm, nm = nameS (from1 s) := ⟨_, rfl⟩
  obtain ⟨r2, hs2⟩ : ∃ r2, r2 = behS (from1 s) := ⟨_, rfl⟩
  obtain ⟨k1, hk1⟩ : ∃ k1, k1 = byte0 (from1 s) := ⟨_, rfl⟩
  obtain ⟨k0, hk0⟩ : ∃ k0, k0 = byte0 s := ⟨_, rfl⟩
  clear b1 p1 q1 hw1 hB0 hS h0 h1 hz1 h2 g4 hm h3 h5 g0
  simp only [← hk1, ← hnm, ← hs2] at HS ix hl2 e1 g1 g2 wx iy g5 g6 wy wz d2 hz2 hz3 ln lb hzb CN
  simp only [← hk0, ← hs1] at HS ix hl2 e1 g1 g2 wx iy g5 g6 wy wz d2 hz2 hz3 ln lb hzb CN
  clear hk0 hk1 hnm hs2 hs1
  go_enter Try.func58, Try.ntmps58
  go_upto_region 1 with (fail)
  rw [← HW.out, ← hy, ← hx]
  clear hx hy
  go_upto_region 3 with (fail)
  refine wp_region_held_drew (S := fun _ => True) (by kernel_rfl) trivial (fun hS0 => ?_)
  refine tk 0 12 (.string s) ?_; (try simp only [s1, s2, s3]); refine tk 1 13 (.int .u8 k0) ?_; (try simp only [s1, s2, s3]); refine tk 2 14 (.int .i64 k0) ?_; (try simp only [s1, s2, s3]); refine tk 3 15 (.string s) ?_; (try simp only [s1, s2, s3]); refine tk 4 16 (.string r1) ?_; (try simp only [s1, s2, s3]); refine tk 5 17 (.pointer (some ⟨x, 20, none⟩)) ?_; (try simp only [s1, s2, s3])
  refine wpAnyH_ready (rs := [6]) (by kernel_rfl) (by simp) ?_
  refine AllReadyH.cons rfl (fun K hK => ?_) ?_
  · rw [if_pos (by rfl)]
    refine wp_storeQ 3 (.tmp 17) (.tmp 14) rfl rfl 20 (by (go_simp; try rfl)) (.int .i64 k0) (by (go_simp; try rfl)) rfl (by kernel_rfl) HB.out.drew (Nat.lt_of_sub_eq_succ rfl) ?_
    intro w3 hB0
    have hB3 : BQ w x x y #[.int .i64 q.op, .int .i64 q.ob.kind, .string q.ob.name, .int .i64 q.ob.uid, .int .i64 q.ob.version, .bool q.ob.deleting, .slice f.A q.ob.fins.length f.c, .slice l.A q.ob.labels.length l.c, .slice c.A q.ob.cidrs.length c.c, .string q.ob.status, .int .i64 q.ob.type, .int .i64 q.ob.policy, .slice p.A q.ob.fams.length p.c, .slice i.A q.ob.ips.length i.c, .string q.ob.v4, .string q.ob.v6, .int .i64 q.ob.bits, .string q.ob.sel, .string q.ob.about, .string q.ob.reason, .int .i64 k0, .string q.name, .int .i64 q.version] #[] zrq w3 := hB0
    clear hB0
    refine hK.out _ _ (trivial) (fun hHeld => ?_)
    clear hK K; try simp only [Act.put, s1, s2, s3]
    refine tk 7 1 (.string r1) ?_; (try simp only [s1, s2, s3])
    refine wpAnyH_done (by kernel_rfl) ?_ _
    repeat clear hHeld
    clear hS0
    have hB := hB3
    have c0 : w3.cell? ⟨x, 0, none⟩ = some (.int .i64 q.op) := by simp [World.cell?, hB3.fz]
    have HB3 := Lib.hid hB3
    clear hB3
    clear hB
    go_upto_region 8 with (fail)
    clear c0
    refine wp_region_held_drew (S := fun _ => True) (by kernel_rfl) trivial (fun hS0 => ?_)
    refine tk 0 36 (.string r1) ?_; (try simp only [s1, s2, s3]); refine tk 1 37 (.int .i64 k1) ?_; (try simp only [s1, s2, s3]); refine tk 2 38 (.int .i64 (1 + k1)) ?_; (try simp only [s1, s2, s3]); refine tk 3 39 (.string nm) ?_; (try simp only [s1, s2, s3]); refine tk 4 40 (.string r1) ?_; (try simp only [s1, s2, s3]); refine tk 5 41 (.int .i64 k1) ?_; (try simp only [s1, s2, s3]); refine tk 6 42 (.int .i64 (1 + k1)) ?_; (try simp only [s1, s2, s3]); refine tk 7 43 (.string r2) ?_; (try simp only [s1, s2, s3]); refine tk 8 44 (.pointer (some ⟨x, 21, none⟩)) ?_; (try simp only [s1, s2, s3])
    refine wpAnyH_ready (rs := [9]) (by kernel_rfl) (by simp) ?_
    refine AllReadyH.cons rfl (fun K hK => ?_) ?_
    · rw [if_pos (by rfl)]
      refine wp_storeQ 9 (.tmp 44) (.tmp 39) rfl rfl 21 (by (go_simp; try rfl)) (.string nm) (by (go_simp; try rfl)) rfl (by kernel_rfl) HB3.out.drew (Nat.lt_of_sub_eq_succ rfl) ?_
      intro w4 hB0
      have hB4 : BQ w x x y #[.int .i64 q.op, .int .i64 q.ob.kind, .string q.ob.name, .int .i64 q.ob.uid, .int .i64 q.ob.version, .bool q.ob.deleting, .slice f.A q.ob.fins.length f.c, .slice l.A q.ob.labels.length l.c, .slice c.A q.ob.cidrs.length c.c, .string q.ob.status, .int .i64 q.ob.type, .int .i64 q.ob.policy, .slice p.A q.ob.fams.length p.c, .slice i.A q.ob.ips.length i.c, .string q.ob.v4, .string q.ob.v6, .int .i64 q.ob.bits, .string q.ob.sel, .string q.ob.about, .string q.ob.reason, .int .i64 k0, .string nm, .int .i64 q.version] #[] zrq w4 := hB0
      clear hB0
      refine hK.out _ _ (trivial) (fun hHeld => ?_)
      clear hK K; try simp only [Act.put, s1, s2, s3]
      refine tk 10 1 (.string r2) ?_; (try simp only [s1, s2, s3])
      refine wpAnyH_done (by kernel_rfl) ?_ _
      repeat clear hHeld
      clear hS0
      have c0 : w4.cell? ⟨x, 0, none⟩ = some (.int .i64 q.op) := by simp [World.cell?, hB4.fz]
      have HBx := Lib.hid hB4
      clear hB4
      go_upto_region 11 with (go_at_call 13; refine (CN.out _).mono ?_; rintro e w5 ⟨rfl, hw5⟩; have hw6 := hw5.symm; clear hw5; subst hw6)
      clear c0
      iterate 7 (first | go_values | go_skip | go_guarded | go_step)
      refine storeQ rfl 3 (.tmp 54) (.tmp 53) rfl rfl 22 rfl (.int .i64 (numOf r2).1) rfl rfl (by kernel_rfl) HBx.out (Nat.lt_of_sub_eq_succ rfl) ?_
      intro w6 hB0
      have hB6 : BQ w x x y #[.int .i64 q.op, .int .i64 q.ob.kind, .string q.ob.name, .int .i64 q.ob.uid, .int .i64 q.ob.version, .bool q.ob.deleting, .slice f.A q.ob.fins.length f.c, .slice l.A q.ob.labels.length l.c, .slice c.A q.ob.cidrs.length c.c, .string q.ob.status, .int .i64 q.ob.type, .int .i64 q.ob.policy, .slice p.A q.ob.fams.length p.c, .slice i.A q.ob.ips.length i.c, .string q.ob.v4, .string q.ob.v6, .int .i64 q.ob.bits, .string q.ob.sel, .string q.ob.about, .string q.ob.reason, .int .i64 k0, .string nm, .int .i64 (numOf r2).1] #[] zrq w6 := hB0
      clear hB0
      have HBy := Lib.hid hB6
      clear hB6
      go_upto_region 12 with (fail)
      have hB := HBy.out
      iterate 1 (first | go_values | go_skip | go_guarded | go_step)
      refine wpList_load_row rfl 51 (.tmp 2) rfl x rfl 51 _ (0, 0) _ hB.fz Try.underlying51 rfl size51 ?_
      iterate 6 (first | go_values | go_skip | go_guarded | go_step)
      refine wpList_store_row rfl 51 (.tmp 4) (.tmp 55) rfl y #[.int .i64 q.op, .int .i64 q.ob.kind, .string q.ob.name, .int .i64 q.ob.uid, .int .i64 q.ob.version, .bool q.ob.deleting, .slice f.A q.ob.fins.length f.c, .slice l.A q.ob.labels.length l.c, .slice c.A q.ob.cidrs.length c.c, .string q.ob.status, .int .i64 q.ob.type, .int .i64 q.ob.policy, .slice p.A q.ob.fams.length p.c, .slice i.A q.ob.ips.length i.c, .string q.ob.v4, .string q.ob.v6, .int .i64 q.ob.bits, .string q.ob.sel, .string q.ob.about, .string q.ob.reason, .int .i64 k0, .string nm, .int .i64 (numOf r2).1] rfl rfl 51 _ hB.fy size51 rfl (by simp [Value.oneCell', zrq]) ?_
      have HBF := Lib.hid hB
      clear hB
      go_wp2
      refine bodyPost_ret (results_ct rfl _ _ y 51 #[.int .i64 q.op, .int .i64 q.ob.kind, .string q.ob.name, .int .i64 q.ob.uid, .int .i64 q.ob.version, .bool q.ob.deleting, .slice f.A q.ob.fins.length f.c, .slice l.A q.ob.labels.length l.c, .slice c.A q.ob.cidrs.length c.c, .string q.ob.status, .int .i64 q.ob.type, .int .i64 q.ob.policy, .slice p.A q.ob.fams.length p.c, .slice i.A q.ob.ips.length i.c, .string q.ob.v4, .string q.ob.v6, .int .i64 q.ob.bits, .string q.ob.sel, .string q.ob.about, .string q.ob.reason, .int .i64 k0, .string nm, .int .i64 (numOf r2).1] (0, 0) _ rfl (setRow_heap _ _ _ _ _ _ HBF.out.fy) Try.underlying51 rfl size51) rfl ⟨?_, ?_⟩
      · rw [HS.out]; rfl
      · exact HBF.out.b.trans ⟨rfl, rfl, rfl, by rw [size_setRow]; exact Nat.le_refl _, fun j hj => setRow_other _ _ _ _ (by rw [HY.out]; omega)⟩
    exact AllReadyH.nil
  exact AllReadyH.nil
set_option maxRecDepth 100000 in
set_option maxHeartbeats 4000000 in
theorem rest_oa (q : Rq) (f l c p i : Sl) (s : ByteArray) (hs : s.size ≤ 500000) (h0 : ¬ s.size = 0) (h5 : ¬ q.op = 5) (h1 : ¬ (from1 s).size = 0) (h2 : ¬ byte0 (from1 s) > (from1 s).size - 1) (h3 : ¬ q.op = 3) (h4 : (behS (from1 s)).size = 0) (w : World) :
    Calls Try.prog 58 #[.agg (rq q f l c p i), .string s] w fun e w' => e = .returned (.tuple #[.agg (rq (restS q s).1 f l c p i), .bool (restS q s).2]) ∧ Below w.heap.size w w' := by
  obtain ⟨w1, hw1, b1, p1, q1⟩ := two_rqs w (rq q f l c p i) zrq
  obtain ⟨x, hx⟩ : ∃ x, x = w.heap.size := ⟨_, rfl⟩
  obtain ⟨y, hy⟩ : ∃ y, y = w.heap.size + 1 := ⟨_, rfl⟩
  rw [← hx] at p1
  rw [← hy] at q1
  have hB0 : BQ w x x y (rq q f l c p i) #[] zrq w1 := ⟨p1, fun h => absurd rfl h, q1, b1, by omega, by omega⟩
  have HB := Lib.hid hB0
  have hS : restS q s = ({ q with kind := byte0 s, name := nameS (from1 s) }, true) := by unfold restS; rw [if_neg h0, if_neg h5, if_neg (by rintro (h | h); exact h1 h; exact h2 h)]; unfold endS; rw [if_neg h3, decide_eq_true h4]
  have HS := Lib.hid hS
  have HW := Lib.hid hw1
  have HY := Lib.hid hy
  have e0 : s.toList.isEmpty = false := not_empty h0
  have ix := ix0 s (by omega)
  have hl1 := sl1 s 1 1 rfl (by omega)
  have hz1 : (from1 s).size = s.size - 1 := by unfold from1; rw [ByteArray.size_extract]; omega
  have e1 : (from1 s).toList.isEmpty = false := not_empty h1
  have iy := ix0 (from1 s) (by omega)
  have g4 := byte0_lt (from1 s)
  have g5 := g4.1
  have g6 := g4.2
  have wy : IntKind.i64.wrap (byte0 (from1 s)) = byte0 (from1 s) := (by rw [IntKind.wrap_i64]; omega)
  have d2 : decide ((from1 s).size - 1 < byte0 (from1 s)) = false := decide_eq_false (by omega)
  have wz : IntKind.i64.wrap (1 + byte0 (from1 s)) = 1 + byte0 (from1 s) := (by rw [IntKind.wrap_i64]; omega)
  have hz2 : (1 : Int) ≤ (from1 s).size := by omega
  have hz3 : ((from1 s).size : Int) ≤ 500000 := by omega
  have hm : byte0 (from1 s) = ((byte0 (from1 s)).toNat : Int) := by omega
  have ln : ∀ W, (Instr.slice 9 (.string (from1 s)) (some (.int .i64 1)) (some (.int .i64 (1 + byte0 (from1 s)))) none).run Try.prog W = .ok (.string (nameS (from1 s))) W := slc (from1 s) 1 (1 + byte0 (from1 s)) 1 (1 + (byte0 (from1 s)).toNat) rfl (by omega) (by omega) (by omega)
  have lb : ∀ W, (Instr.slice 9 (.string (from1 s)) (some (.int .i64 (1 + byte0 (from1 s)))) none none).run Try.prog W = .ok (.string (behS (from1 s))) W := sl1 (from1 s) (1 + byte0 (from1 s)) (1 + (byte0 (from1 s)).toNat) (by omega) (by omega)
  have hzb : (behS (from1 s)).size ≤ 500000 := by unfold behS; rw [ByteArray.size_extract]; omega
  have e2 : (behS (from1 s)).toList.isEmpty = true := empty_of h4
  have g0 := byte0_lt s
  have g1 := g0.1
  have g2 := g0.2
  have wx : IntKind.i64.wrap (byte0 s) = byte0 s := (by rw [IntKind.wrap_i64]; omega)
  have k5 : (q.op != 5) = true := by simpa using h5
  have k3 : (q.op == 3) = false := by simpa using h3
  obtain ⟨r1, hs1⟩ : ∃ r1, r1 = from1 s := ⟨_, rfl⟩
  have hl2 : ∀ W, (Instr.slice 9 (.string s) (some (.int .i64 1)) none none).run Try.prog W = .ok (.string (from1 s)) W := hl1
  clear hl1
  obtain ⟨nm, hnm⟩ : ∃ nm, nm = nameS (from1 s) := ⟨_, rfl⟩
  obtain ⟨r2, hs2⟩ : ∃ r2, r2 = behS (from1 s) := ⟨_, rfl⟩
  obtain ⟨k1, hk1⟩ : ∃ k1, k1 = byte0 (from1 s) := ⟨_, rfl⟩
  obtain ⟨k0, hk0⟩ : ∃ k0, k0 = byte0 s := ⟨_, rfl⟩
  clear b1 p1 q1 hw1 hB0 hS h0 h1 hz1 h2 g4 hm h3 h4 h5 g0
  simp only [← hk1, ← hnm, ← hs2] at HS ix hl2 e1 g1 g2 wx iy g5 g6 wy wz d2 hz2 hz3 ln lb hzb e2
  simp only [← hk0, ← hs1] at HS ix hl2 e1 g1 g2 wx iy g5 g6 wy wz d2 hz2 hz3 ln lb hzb e2
  clear hk0 hk1 hnm hs2 hs1
  go_enter Try.func58, Try.ntmps58
  go_upto_region 1 with (fail)
  rw [← HW.out, ← hy, ← hx]
  clear hx hy
  go_upto_region 3 with (fail)
  refine wp_region_held_drew (S := fun _ => True) (by kernel_rfl) trivial (fun hS0 => ?_)
  refine tk 0 12 (.string s) ?_; (try simp only [s1, s2, s3]); refine tk 1 13 (.int .u8 k0) ?_; (try simp only [s1, s2, s3]); refine tk 2 14 (.int .i64 k0) ?_; (try simp only [s1, s2, s3]); refine tk 3 15 (.string s) ?_; (try simp only [s1, s2, s3]); refine tk 4 16 (.string r1) ?_; (try simp only [s1, s2, s3]); refine tk 5 17 (.pointer (some ⟨x, 20, none⟩)) ?_; (try simp only [s1, s2, s3])
  refine wpAnyH_ready (rs := [6]) (by kernel_rfl) (by simp) ?_
  refine AllReadyH.cons rfl (fun K hK => ?_) ?_
  · rw [if_pos (by rfl)]
    refine wp_storeQ 3 (.tmp 17) (.tmp 14) rfl rfl 20 (by (go_simp; try rfl)) (.int .i64 k0) (by (go_simp; try rfl)) rfl (by kernel_rfl) HB.out.drew (Nat.lt_of_sub_eq_succ rfl) ?_
    intro w3 hB0
    have hB3 : BQ w x x y #[.int .i64 q.op, .int .i64 q.ob.kind, .string q.ob.name, .int .i64 q.ob.uid, .int .i64 q.ob.version, .bool q.ob.deleting, .slice f.A q.ob.fins.length f.c, .slice l.A q.ob.labels.length l.c, .slice c.A q.ob.cidrs.length c.c, .string q.ob.status, .int .i64 q.ob.type, .int .i64 q.ob.policy, .slice p.A q.ob.fams.length p.c, .slice i.A q.ob.ips.length i.c, .string q.ob.v4, .string q.ob.v6, .int .i64 q.ob.bits, .string q.ob.sel, .string q.ob.about, .string q.ob.reason, .int .i64 k0, .string q.name, .int .i64 q.version] #[] zrq w3 := hB0
    clear hB0
    refine hK.out _ _ (trivial) (fun hHeld => ?_)
    clear hK K; try simp only [Act.put, s1, s2, s3]
    refine tk 7 1 (.string r1) ?_; (try simp only [s1, s2, s3])
    refine wpAnyH_done (by kernel_rfl) ?_ _
    repeat clear hHeld
    clear hS0
    have hB := hB3
    have c0 : w3.cell? ⟨x, 0, none⟩ = some (.int .i64 q.op) := by simp [World.cell?, hB3.fz]
    have HB3 := Lib.hid hB3
    clear hB3
    clear hB
    go_upto_region 8 with (fail)
    clear c0
    refine wp_region_held_drew (S := fun _ => True) (by kernel_rfl) trivial (fun hS0 => ?_)
    refine tk 0 36 (.string r1) ?_; (try simp only [s1, s2, s3]); refine tk 1 37 (.int .i64 k1) ?_; (try simp only [s1, s2, s3]); refine tk 2 38 (.int .i64 (1 + k1)) ?_; (try simp only [s1, s2, s3]); refine tk 3 39 (.string nm) ?_; (try simp only [s1, s2, s3]); refine tk 4 40 (.string r1) ?_; (try simp only [s1, s2, s3]); refine tk 5 41 (.int .i64 k1) ?_; (try simp only [s1, s2, s3]); refine tk 6 42 (.int .i64 (1 + k1)) ?_; (try simp only [s1, s2, s3]); refine tk 7 43 (.string r2) ?_; (try simp only [s1, s2, s3]); refine tk 8 44 (.pointer (some ⟨x, 21, none⟩)) ?_; (try simp only [s1, s2, s3])
    refine wpAnyH_ready (rs := [9]) (by kernel_rfl) (by simp) ?_
    refine AllReadyH.cons rfl (fun K hK => ?_) ?_
    · rw [if_pos (by rfl)]
      refine wp_storeQ 9 (.tmp 44) (.tmp 39) rfl rfl 21 (by (go_simp; try rfl)) (.string nm) (by (go_simp; try rfl)) rfl (by kernel_rfl) HB3.out.drew (Nat.lt_of_sub_eq_succ rfl) ?_
      intro w4 hB0
      have hB4 : BQ w x x y #[.int .i64 q.op, .int .i64 q.ob.kind, .string q.ob.name, .int .i64 q.ob.uid, .int .i64 q.ob.version, .bool q.ob.deleting, .slice f.A q.ob.fins.length f.c, .slice l.A q.ob.labels.length l.c, .slice c.A q.ob.cidrs.length c.c, .string q.ob.status, .int .i64 q.ob.type, .int .i64 q.ob.policy, .slice p.A q.ob.fams.length p.c, .slice i.A q.ob.ips.length i.c, .string q.ob.v4, .string q.ob.v6, .int .i64 q.ob.bits, .string q.ob.sel, .string q.ob.about, .string q.ob.reason, .int .i64 k0, .string nm, .int .i64 q.version] #[] zrq w4 := hB0
      clear hB0
      refine hK.out _ _ (trivial) (fun hHeld => ?_)
      clear hK K; try simp only [Act.put, s1, s2, s3]
      refine tk 10 1 (.string r2) ?_; (try simp only [s1, s2, s3])
      refine wpAnyH_done (by kernel_rfl) ?_ _
      repeat clear hHeld
      clear hS0
      have c0 : w4.cell? ⟨x, 0, none⟩ = some (.int .i64 q.op) := by simp [World.cell?, hB4.fz]
      have HBx := Lib.hid hB4
      clear hB4
      go_upto_region 13 with (fail)
      have hB := HBx.out
      clear c0
      iterate 1 (first | go_values | go_skip | go_guarded | go_step)
      refine wpList_load_row rfl 51 (.tmp 2) rfl x rfl 51 _ (0, 0) _ hB.fz Try.underlying51 rfl size51 ?_
      iterate 6 (first | go_values | go_skip | go_guarded | go_step)
      refine wpList_store_row rfl 51 (.tmp 4) (.tmp 58) rfl y #[.int .i64 q.op, .int .i64 q.ob.kind, .string q.ob.name, .int .i64 q.ob.uid, .int .i64 q.ob.version, .bool q.ob.deleting, .slice f.A q.ob.fins.length f.c, .slice l.A q.ob.labels.length l.c, .slice c.A q.ob.cidrs.length c.c, .string q.ob.status, .int .i64 q.ob.type, .int .i64 q.ob.policy, .slice p.A q.ob.fams.length p.c, .slice i.A q.ob.ips.length i.c, .string q.ob.v4, .string q.ob.v6, .int .i64 q.ob.bits, .string q.ob.sel, .string q.ob.about, .string q.ob.reason, .int .i64 k0, .string nm, .int .i64 q.version] rfl rfl 51 _ hB.fy size51 rfl (by simp [Value.oneCell', zrq]) ?_
      have HBF := Lib.hid hB
      clear hB
      go_wp2
      refine bodyPost_ret (results_ct rfl _ _ y 51 #[.int .i64 q.op, .int .i64 q.ob.kind, .string q.ob.name, .int .i64 q.ob.uid, .int .i64 q.ob.version, .bool q.ob.deleting, .slice f.A q.ob.fins.length f.c, .slice l.A q.ob.labels.length l.c, .slice c.A q.ob.cidrs.length c.c, .string q.ob.status, .int .i64 q.ob.type, .int .i64 q.ob.policy, .slice p.A q.ob.fams.length p.c, .slice i.A q.ob.ips.length i.c, .string q.ob.v4, .string q.ob.v6, .int .i64 q.ob.bits, .string q.ob.sel, .string q.ob.about, .string q.ob.reason, .int .i64 k0, .string nm, .int .i64 q.version] (0, 0) _ rfl (setRow_heap _ _ _ _ _ _ HBF.out.fy) Try.underlying51 rfl size51) rfl ⟨?_, ?_⟩
      · rw [HS.out]; rfl
      · exact HBF.out.b.trans ⟨rfl, rfl, rfl, by rw [size_setRow]; exact Nat.le_refl _, fun j hj => setRow_other _ _ _ _ (by rw [HY.out]; omega)⟩
    exact AllReadyH.nil
  exact AllReadyH.nil
set_option maxRecDepth 100000 in
set_option maxHeartbeats 4000000 in
theorem rest_ob (q : Rq) (f l c p i : Sl) (s : ByteArray) (hs : s.size ≤ 500000) (h0 : ¬ s.size = 0) (h5 : ¬ q.op = 5) (h1 : ¬ (from1 s).size = 0) (h2 : ¬ byte0 (from1 s) > (from1 s).size - 1) (h3 : ¬ q.op = 3) (h4 : ¬ (behS (from1 s)).size = 0) (w : World) :
    Calls Try.prog 58 #[.agg (rq q f l c p i), .string s] w fun e w' => e = .returned (.tuple #[.agg (rq (restS q s).1 f l c p i), .bool (restS q s).2]) ∧ Below w.heap.size w w' := by
  obtain ⟨w1, hw1, b1, p1, q1⟩ := two_rqs w (rq q f l c p i) zrq
  obtain ⟨x, hx⟩ : ∃ x, x = w.heap.size := ⟨_, rfl⟩
  obtain ⟨y, hy⟩ : ∃ y, y = w.heap.size + 1 := ⟨_, rfl⟩
  rw [← hx] at p1
  rw [← hy] at q1
  have hB0 : BQ w x x y (rq q f l c p i) #[] zrq w1 := ⟨p1, fun h => absurd rfl h, q1, b1, by omega, by omega⟩
  have HB := Lib.hid hB0
  have hS : restS q s = ({ q with kind := byte0 s, name := nameS (from1 s) }, false) := by unfold restS; rw [if_neg h0, if_neg h5, if_neg (by rintro (h | h); exact h1 h; exact h2 h)]; unfold endS; rw [if_neg h3, decide_eq_false h4]
  have HS := Lib.hid hS
  have HW := Lib.hid hw1
  have HY := Lib.hid hy
  have e0 : s.toList.isEmpty = false := not_empty h0
  have ix := ix0 s (by omega)
  have hl1 := sl1 s 1 1 rfl (by omega)
  have hz1 : (from1 s).size = s.size - 1 := by unfold from1; rw [ByteArray.size_extract]; omega
  have e1 : (from1 s).toList.isEmpty = false := not_empty h1
  have iy := ix0 (from1 s) (by omega)
  have g4 := byte0_lt (from1 s)
  have g5 := g4.1
  have g6 := g4.2
  have wy : IntKind.i64.wrap (byte0 (from1 s)) = byte0 (from1 s) := (by rw [IntKind.wrap_i64]; omega)
  have d2 : decide ((from1 s).size - 1 < byte0 (from1 s)) = false := decide_eq_false (by omega)
  have wz : IntKind.i64.wrap (1 + byte0 (from1 s)) = 1 + byte0 (from1 s) := (by rw [IntKind.wrap_i64]; omega)
  have hz2 : (1 : Int) ≤ (from1 s).size := by omega
  have hz3 : ((from1 s).size : Int) ≤ 500000 := by omega
  have hm : byte0 (from1 s) = ((byte0 (from1 s)).toNat : Int) := by omega
  have ln : ∀ W, (Instr.slice 9 (.string (from1 s)) (some (.int .i64 1)) (some (.int .i64 (1 + byte0 (from1 s)))) none).run Try.prog W = .ok (.string (nameS (from1 s))) W := slc (from1 s) 1 (1 + byte0 (from1 s)) 1 (1 + (byte0 (from1 s)).toNat) rfl (by omega) (by omega) (by omega)
  have lb : ∀ W, (Instr.slice 9 (.string (from1 s)) (some (.int .i64 (1 + byte0 (from1 s)))) none none).run Try.prog W = .ok (.string (behS (from1 s))) W := sl1 (from1 s) (1 + byte0 (from1 s)) (1 + (byte0 (from1 s)).toNat) (by omega) (by omega)
  have hzb : (behS (from1 s)).size ≤ 500000 := by unfold behS; rw [ByteArray.size_extract]; omega
  have e2 : (behS (from1 s)).toList.isEmpty = false := not_empty h4
  have g0 := byte0_lt s
  have g1 := g0.1
  have g2 := g0.2
  have wx : IntKind.i64.wrap (byte0 s) = byte0 s := (by rw [IntKind.wrap_i64]; omega)
  have k5 : (q.op != 5) = true := by simpa using h5
  have k3 : (q.op == 3) = false := by simpa using h3
  obtain ⟨r1, hs1⟩ : ∃ r1, r1 = from1 s := ⟨_, rfl⟩
  have hl2 : ∀ W, (Instr.slice 9 (.string s) (some (.int .i64 1)) none none).run Try.prog W = .ok (.string (from1 s)) W := hl1
  clear hl1
  obtain ⟨nm, hnm⟩ : ∃ nm, nm = nameS (from1 s) := ⟨_, rfl⟩
  obtain ⟨r2, hs2⟩ : ∃ r2, r2 = behS (from1 s) := ⟨_, rfl⟩
  obtain ⟨k1, hk1⟩ : ∃ k1, k1 = byte0 (from1 s) := ⟨_, rfl⟩
  obtain ⟨k0, hk0⟩ : ∃ k0, k0 = byte0 s := ⟨_, rfl⟩
  clear b1 p1 q1 hw1 hB0 hS h0 h1 hz1 h2 g4 hm h3 h4 h5 g0
  simp only [← hk1, ← hnm, ← hs2] at HS ix hl2 e1 g1 g2 wx iy g5 g6 wy wz d2 hz2 hz3 ln lb hzb e2
  simp only [← hk0, ← hs1] at HS ix hl2 e1 g1 g2 wx iy g5 g6 wy wz d2 hz2 hz3 ln lb hzb e2
  clear hk0 hk1 hnm hs2 hs1
  go_enter Try.func58, Try.ntmps58
  go_upto_region 1 with (fail)
  rw [← HW.out, ← hy, ← hx]
  clear hx hy
  go_upto_region 3 with (fail)
  refine wp_region_held_drew (S := fun _ => True) (by kernel_rfl) trivial (fun hS0 => ?_)
  refine tk 0 12 (.string s) ?_; (try simp only [s1, s2, s3]); refine tk 1 13 (.int .u8 k0) ?_; (try simp only [s1, s2, s3]); refine tk 2 14 (.int .i64 k0) ?_; (try simp only [s1, s2, s3]); refine tk 3 15 (.string s) ?_; (try simp only [s1, s2, s3]); refine tk 4 16 (.string r1) ?_; (try simp only [s1, s2, s3]); refine tk 5 17 (.pointer (some ⟨x, 20, none⟩)) ?_; (try simp only [s1, s2, s3])
  refine wpAnyH_ready (rs := [6]) (by kernel_rfl) (by simp) ?_
  refine AllReadyH.cons rfl (fun K hK => ?_) ?_
  · rw [if_pos (by rfl)]
    refine wp_storeQ 3 (.tmp 17) (.tmp 14) rfl rfl 20 (by (go_simp; try rfl)) (.int .i64 k0) (by (go_simp; try rfl)) rfl (by kernel_rfl) HB.out.drew (Nat.lt_of_sub_eq_succ rfl) ?_
    intro w3 hB0
    have hB3 : BQ w x x y #[.int .i64 q.op, .int .i64 q.ob.kind, .string q.ob.name, .int .i64 q.ob.uid, .int .i64 q.ob.version, .bool q.ob.deleting, .slice f.A q.ob.fins.length f.c, .slice l.A q.ob.labels.length l.c, .slice c.A q.ob.cidrs.length c.c, .string q.ob.status, .int .i64 q.ob.type, .int .i64 q.ob.policy, .slice p.A q.ob.fams.length p.c, .slice i.A q.ob.ips.length i.c, .string q.ob.v4, .string q.ob.v6, .int .i64 q.ob.bits, .string q.ob.sel, .string q.ob.about, .string q.ob.reason, .int .i64 k0, .string q.name, .int .i64 q.version] #[] zrq w3 := hB0
    clear hB0
    refine hK.out _ _ (trivial) (fun hHeld => ?_)
    clear hK K; try simp only [Act.put, s1, s2, s3]
    refine tk 7 1 (.string r1) ?_; (try simp only [s1, s2, s3])
    refine wpAnyH_done (by kernel_rfl) ?_ _
    repeat clear hHeld
    clear hS0
    have hB := hB3
    have c0 : w3.cell? ⟨x, 0, none⟩ = some (.int .i64 q.op) := by simp [World.cell?, hB3.fz]
    have HB3 := Lib.hid hB3
    clear hB3
    clear hB
    go_upto_region 8 with (fail)
    clear c0
    refine wp_region_held_drew (S := fun _ => True) (by kernel_rfl) trivial (fun hS0 => ?_)
    refine tk 0 36 (.string r1) ?_; (try simp only [s1, s2, s3]); refine tk 1 37 (.int .i64 k1) ?_; (try simp only [s1, s2, s3]); refine tk 2 38 (.int .i64 (1 + k1)) ?_; (try simp only [s1, s2, s3]); refine tk 3 39 (.string nm) ?_; (try simp only [s1, s2, s3]); refine tk 4 40 (.string r1) ?_; (try simp only [s1, s2, s3]); refine tk 5 41 (.int .i64 k1) ?_; (try simp only [s1, s2, s3]); refine tk 6 42 (.int .i64 (1 + k1)) ?_; (try simp only [s1, s2, s3]); refine tk 7 43 (.string r2) ?_; (try simp only [s1, s2, s3]); refine tk 8 44 (.pointer (some ⟨x, 21, none⟩)) ?_; (try simp only [s1, s2, s3])
    refine wpAnyH_ready (rs := [9]) (by kernel_rfl) (by simp) ?_
    refine AllReadyH.cons rfl (fun K hK => ?_) ?_
    · rw [if_pos (by rfl)]
      refine wp_storeQ 9 (.tmp 44) (.tmp 39) rfl rfl 21 (by (go_simp; try rfl)) (.string nm) (by (go_simp; try rfl)) rfl (by kernel_rfl) HB3.out.drew (Nat.lt_of_sub_eq_succ rfl) ?_
      intro w4 hB0
      have hB4 : BQ w x x y #[.int .i64 q.op, .int .i64 q.ob.kind, .string q.ob.name, .int .i64 q.ob.uid, .int .i64 q.ob.version, .bool q.ob.deleting, .slice f.A q.ob.fins.length f.c, .slice l.A q.ob.labels.length l.c, .slice c.A q.ob.cidrs.length c.c, .string q.ob.status, .int .i64 q.ob.type, .int .i64 q.ob.policy, .slice p.A q.ob.fams.length p.c, .slice i.A q.ob.ips.length i.c, .string q.ob.v4, .string q.ob.v6, .int .i64 q.ob.bits, .string q.ob.sel, .string q.ob.about, .string q.ob.reason, .int .i64 k0, .string nm, .int .i64 q.version] #[] zrq w4 := hB0
      clear hB0
      refine hK.out _ _ (trivial) (fun hHeld => ?_)
      clear hK K; try simp only [Act.put, s1, s2, s3]
      refine tk 10 1 (.string r2) ?_; (try simp only [s1, s2, s3])
      refine wpAnyH_done (by kernel_rfl) ?_ _
      repeat clear hHeld
      clear hS0
      have c0 : w4.cell? ⟨x, 0, none⟩ = some (.int .i64 q.op) := by simp [World.cell?, hB4.fz]
      have HBx := Lib.hid hB4
      clear hB4
      go_upto_region 13 with (fail)
      have hB := HBx.out
      clear c0
      iterate 1 (first | go_values | go_skip | go_guarded | go_step)
      refine wpList_load_row rfl 51 (.tmp 2) rfl x rfl 51 _ (0, 0) _ hB.fz Try.underlying51 rfl size51 ?_
      iterate 6 (first | go_values | go_skip | go_guarded | go_step)
      refine wpList_store_row rfl 51 (.tmp 4) (.tmp 58) rfl y #[.int .i64 q.op, .int .i64 q.ob.kind, .string q.ob.name, .int .i64 q.ob.uid, .int .i64 q.ob.version, .bool q.ob.deleting, .slice f.A q.ob.fins.length f.c, .slice l.A q.ob.labels.length l.c, .slice c.A q.ob.cidrs.length c.c, .string q.ob.status, .int .i64 q.ob.type, .int .i64 q.ob.policy, .slice p.A q.ob.fams.length p.c, .slice i.A q.ob.ips.length i.c, .string q.ob.v4, .string q.ob.v6, .int .i64 q.ob.bits, .string q.ob.sel, .string q.ob.about, .string q.ob.reason, .int .i64 k0, .string nm, .int .i64 q.version] rfl rfl 51 _ hB.fy size51 rfl (by simp [Value.oneCell', zrq]) ?_
      have HBF := Lib.hid hB
      clear hB
      go_wp2
      refine bodyPost_ret (results_ct rfl _ _ y 51 #[.int .i64 q.op, .int .i64 q.ob.kind, .string q.ob.name, .int .i64 q.ob.uid, .int .i64 q.ob.version, .bool q.ob.deleting, .slice f.A q.ob.fins.length f.c, .slice l.A q.ob.labels.length l.c, .slice c.A q.ob.cidrs.length c.c, .string q.ob.status, .int .i64 q.ob.type, .int .i64 q.ob.policy, .slice p.A q.ob.fams.length p.c, .slice i.A q.ob.ips.length i.c, .string q.ob.v4, .string q.ob.v6, .int .i64 q.ob.bits, .string q.ob.sel, .string q.ob.about, .string q.ob.reason, .int .i64 k0, .string nm, .int .i64 q.version] (0, 0) _ rfl (setRow_heap _ _ _ _ _ _ HBF.out.fy) Try.underlying51 rfl size51) rfl ⟨?_, ?_⟩
      · rw [HS.out]; rfl
      · exact HBF.out.b.trans ⟨rfl, rfl, rfl, by rw [size_setRow]; exact Nat.le_refl _, fun j hj => setRow_other _ _ _ _ (by rw [HY.out]; omega)⟩
    exact AllReadyH.nil
  exact AllReadyH.nil
theorem rest_any (q : Rq) (f l c p i : Sl) (s : ByteArray) (hs : s.size ≤ 500000) (w : World) :
    Calls Try.prog 58 #[.agg (rq q f l c p i), .string s] w fun e w' => e = .returned (.tuple #[.agg (rq (restS q s).1 f l c p i), .bool (restS q s).2]) ∧ Below w.heap.size w w' := by
  by_cases h0 : s.size = 0
  · exact rest_n q f l c p i s hs h0 w
  by_cases h5 : q.op = 5
  · by_cases h1 : (from1 s).size = 0
    · exact rest_5a q f l c p i s hs h0 h5 h1 w
    · exact rest_5b q f l c p i s hs h0 h5 h1 w
  by_cases h1 : (from1 s).size = 0
  · exact rest_e q f l c p i s hs h0 h5 h1 w
  by_cases h2 : byte0 (from1 s) > (from1 s).size - 1
  · exact rest_l q f l c p i s hs h0 h5 h1 h2 w
  by_cases h3 : q.op = 3
  · exact rest_3 q f l c p i s hs h0 h5 h1 h2 h3 w
  by_cases h4 : (behS (from1 s)).size = 0
  · exact rest_oa q f l c p i s hs h0 h5 h1 h2 h3 h4 w
  · exact rest_ob q f l c p i s hs h0 h5 h1 h2 h3 h4 w
end Go.Proofs.Ytolndeolehkjoaa
