/- The walk of CodecPacks. -/
import Derived.Test.YtolndeolehkjoaaLw3
namespace Go.Proofs.Ytolndeolehkjoaa
set_option linter.unusedVariables false
set_option linter.unusedSimpArgs false
open Go.RowKit CodP
set_option maxRecDepth 100000 in
set_option maxHeartbeats 8000000 in
theorem packs_long (o : Ob) (f l c p i : Sl) (hz : ObSz o) (tail : ByteArray) (hl : longO o = true) (w : World) (hr : RowsR w o f l c p i) :
    Calls Try.prog 5 #[.agg (oc o f l c p i), .string tail] w fun e w' => e = .returned (.bool true) ∧ Below w.heap.size w w' := by
  obtain ⟨w1, hw1, b1, p1⟩ := box_one w (oc o f l c p i) 32
  obtain ⟨x, hx⟩ : ∃ x, x = w.heap.size := ⟨_, rfl⟩
  rw [← hx] at p1
  have RO0 := Lib.hid (hr.below b1)
  have PO0 := Lib.hid p1
  have HW := Lib.hid hw1
  have B1 := Lib.hid b1
  have HZ := Lib.hid hz
  have CL := Lib.hid (fun V (h : RowsR V o f l c p i) => long_any o f l c p i hz V h)
  rw [hl] at CL
  clear b1 p1 hw1 hr hz hl
  go_enter Try.func5, Try.ntmps5
  go_upto_region 1 with (fail)
  rw [← HW.out, ← hx]
  clear hx
  go_wp2_with (fail)
  refine (awake_any _).mono ?_
  rintro e v1 ⟨rfl, hb⟩
  have K1 := Lib.hid (show Below w1.heap.size w1 v1 from hb)
  have PO1 := Lib.hid ((hb.block x (Array.getElem?_eq_some_iff.1 PO0.out).1).trans PO0.out)
  have RO1 := Lib.hid (RO0.out.below hb)
  clear hb
  go_wp2_with ((refine wpList_load_row rfl 32 (.tmp 2) rfl x rfl 32 _ (0, 0) _ PO1.out Try.underlying32 rfl size32 ?_))
  refine (CL.out _ RO1.out).mono ?_
  rintro e v2 ⟨rfl, hb⟩
  have K2 := Lib.hid (K1.out.trans (belowLe K1.out.size hb))
  have PO2 := Lib.hid ((hb.block x (Array.getElem?_eq_some_iff.1 PO1.out).1).trans PO1.out)
  have RO2 := Lib.hid (RO1.out.below hb)
  clear hb
  go_wp2
  go_ret
  exact ⟨rfl, B1.out.trans (belowLe B1.out.size K2.out)⟩
set_option maxRecDepth 100000 in
set_option maxHeartbeats 8000000 in
theorem packs_tail (o : Ob) (f l c p i : Sl) (hz : ObSz o) (tail : ByteArray) (hl : longO o = false) (ht : (1000 : Int) < tail.size) (w : World) (hr : RowsR w o f l c p i) :
    Calls Try.prog 5 #[.agg (oc o f l c p i), .string tail] w fun e w' => e = .returned (.bool true) ∧ Below w.heap.size w w' := by
  obtain ⟨w1, hw1, b1, p1⟩ := box_one w (oc o f l c p i) 32
  obtain ⟨x, hx⟩ : ∃ x, x = w.heap.size := ⟨_, rfl⟩
  rw [← hx] at p1
  have RO0 := Lib.hid (hr.below b1)
  have PO0 := Lib.hid p1
  have HW := Lib.hid hw1
  have B1 := Lib.hid b1
  have HZ := Lib.hid hz
  have CL := Lib.hid (fun V (h : RowsR V o f l c p i) => long_any o f l c p i hz V h)
  rw [hl] at CL
  clear b1 p1 hw1 hr hz hl
  go_enter Try.func5, Try.ntmps5
  go_upto_region 1 with (fail)
  rw [← HW.out, ← hx]
  clear hx
  go_wp2_with (fail)
  refine (awake_any _).mono ?_
  rintro e v1 ⟨rfl, hb⟩
  have K1 := Lib.hid (show Below w1.heap.size w1 v1 from hb)
  have PO1 := Lib.hid ((hb.block x (Array.getElem?_eq_some_iff.1 PO0.out).1).trans PO0.out)
  have RO1 := Lib.hid (RO0.out.below hb)
  clear hb
  go_wp2_with ((refine wpList_load_row rfl 32 (.tmp 2) rfl x rfl 32 _ (0, 0) _ PO1.out Try.underlying32 rfl size32 ?_))
  refine (CL.out _ RO1.out).mono ?_
  rintro e v2 ⟨rfl, hb⟩
  have K2 := Lib.hid (K1.out.trans (belowLe K1.out.size hb))
  have PO2 := Lib.hid ((hb.block x (Array.getElem?_eq_some_iff.1 PO1.out).1).trans PO1.out)
  have RO2 := Lib.hid (RO1.out.below hb)
  clear hb
  go_wp2
  go_ret
  exact ⟨rfl, B1.out.trans (belowLe B1.out.size K2.out)⟩
set_option maxRecDepth 100000 in
set_option maxHeartbeats 8000000 in
theorem packs_bad (o : Ob) (f l c p i : Sl) (hz : ObSz o) (tail : ByteArray) (hl : longO o = false) (ht : (tail.size : Int) ≤ 1000) (hsh : CodP.shape o = false) (w : World) (hr : RowsR w o f l c p i) :
    Calls Try.prog 5 #[.agg (oc o f l c p i), .string tail] w fun e w' => e = .returned (.bool true) ∧ Below w.heap.size w w' := by
  obtain ⟨w1, hw1, b1, p1⟩ := box_one w (oc o f l c p i) 32
  obtain ⟨x, hx⟩ : ∃ x, x = w.heap.size := ⟨_, rfl⟩
  rw [← hx] at p1
  have RO0 := Lib.hid (hr.below b1)
  have PO0 := Lib.hid p1
  have HW := Lib.hid hw1
  have B1 := Lib.hid b1
  have HZ := Lib.hid hz
  have CL := Lib.hid (fun V (h : RowsR V o f l c p i) => long_any o f l c p i hz V h)
  rw [hl] at CL
  have hle := long_le o hl
  have HL := Lib.hid (show o.fins.length ≤ 1000000 ∧ o.labels.length ≤ 1000000 ∧ o.cidrs.length ≤ 1000000 ∧ o.fams.length ≤ 1000000 ∧ o.ips.length ≤ 1000000 from ⟨by omega, by omega, by omega, by omega, by omega⟩)
  clear hle
  have hp : packS o = (⟨#[]⟩, 13) := by unfold packS; rw [hsh]; rfl
  have HP := Lib.hid hp
  clear hp hsh
  clear b1 p1 hw1 hr hz hl
  go_enter Try.func5, Try.ntmps5
  go_upto_region 1 with (fail)
  rw [← HW.out, ← hx]
  clear hx
  go_wp2_with (fail)
  refine (awake_any _).mono ?_
  rintro e v1 ⟨rfl, hb⟩
  have K1 := Lib.hid (show Below w1.heap.size w1 v1 from hb)
  have PO1 := Lib.hid ((hb.block x (Array.getElem?_eq_some_iff.1 PO0.out).1).trans PO0.out)
  have RO1 := Lib.hid (RO0.out.below hb)
  clear hb
  go_wp2_with ((refine wpList_load_row rfl 32 (.tmp 2) rfl x rfl 32 _ (0, 0) _ PO1.out Try.underlying32 rfl size32 ?_))
  refine (CL.out _ RO1.out).mono ?_
  rintro e v2 ⟨rfl, hb⟩
  have K2 := Lib.hid (K1.out.trans (belowLe K1.out.size hb))
  have PO2 := Lib.hid ((hb.block x (Array.getElem?_eq_some_iff.1 PO1.out).1).trans PO1.out)
  have RO2 := Lib.hid (RO1.out.below hb)
  clear hb
  go_wp2_with ((refine wpList_load_row rfl 32 (.tmp 2) rfl x rfl 32 _ (0, 0) _ PO2.out Try.underlying32 rfl size32 ?_))
  have C1 := Lib.hid (pack_any o f l c p i HL.out v2 RO2.out)
  rw [HP.out] at C1
  refine (C1.out).mono ?_
  rintro e v3 ⟨rfl, hb⟩
  have K3 := Lib.hid (K2.out.trans (belowLe K2.out.size hb))
  have PO3 := Lib.hid ((hb.block x (Array.getElem?_eq_some_iff.1 PO2.out).1).trans PO2.out)
  have RO3 := Lib.hid (RO2.out.below hb)
  clear hb
  go_wp2_with ((refine wpList_load_row rfl 32 (.tmp 2) rfl x rfl 32 _ (0, 0) _ PO3.out Try.underlying32 rfl size32 ?_))
  have C2 := Lib.hid (rpack_any o f l c p i HL.out v3 RO3.out)
  rw [HP.out] at C2
  refine (C2.out).mono ?_
  rintro e v4 ⟨rfl, hb⟩
  have K4 := Lib.hid (K3.out.trans (belowLe K3.out.size hb))
  have PO4 := Lib.hid ((hb.block x (Array.getElem?_eq_some_iff.1 PO3.out).1).trans PO3.out)
  have RO4 := Lib.hid (RO3.out.below hb)
  clear hb
  go_wp2
  go_ret
  exact ⟨rfl, B1.out.trans (belowLe B1.out.size K4.out)⟩
set_option maxRecDepth 100000 in
set_option maxHeartbeats 8000000 in
theorem packs_none (o : Ob) (f l c p i : Sl) (hz : ObSz o) (tail : ByteArray) (hl : longO o = false) (ht : (tail.size : Int) ≤ 1000) (hsh : CodP.shape o = true) (h0 : tail.size = 0) (w : World) (hr : RowsR w o f l c p i) :
    Calls Try.prog 5 #[.agg (oc o f l c p i), .string tail] w fun e w' => e = .returned (.bool true) ∧ Below w.heap.size w w' := by
  obtain ⟨w1, hw1, b1, p1⟩ := box_one w (oc o f l c p i) 32
  obtain ⟨x, hx⟩ : ∃ x, x = w.heap.size := ⟨_, rfl⟩
  rw [← hx] at p1
  have RO0 := Lib.hid (hr.below b1)
  have PO0 := Lib.hid p1
  have HW := Lib.hid hw1
  have B1 := Lib.hid b1
  have HZ := Lib.hid hz
  have CL := Lib.hid (fun V (h : RowsR V o f l c p i) => long_any o f l c p i hz V h)
  rw [hl] at CL
  have hle := long_le o hl
  have HL := Lib.hid (show o.fins.length ≤ 1000000 ∧ o.labels.length ≤ 1000000 ∧ o.cidrs.length ≤ 1000000 ∧ o.fams.length ≤ 1000000 ∧ o.ips.length ≤ 1000000 from ⟨by omega, by omega, by omega, by omega, by omega⟩)
  clear hle
  have hp : packS o = (bytesS o, 0) := by unfold packS; rw [hsh]; rfl
  have HP := Lib.hid hp
  have hf := first_back o hsh tail
  have hu1 := unpack_back o hsh ⟨#[]⟩
  rw [if_pos (show (⟨#[]⟩ : ByteArray).size = 0 from rfl), append_nil] at hu1
  have hu2 := unpack_back o hsh tail
  rw [if_pos h0] at hu2
  have hts := bytesS_le o hsh
  have htp := bytesS_pos o
  have CF := Lib.hid (fun V => first_any (bytesS o ++ tail) (by rw [ByteArray.size_append]; omega) V)
  rw [hf] at CF
  have CU := Lib.hid (fun V => unpack_any (bytesS o) (by omega) V)
  rw [hu1] at CU
  have CV := Lib.hid (fun V => unpack_any (bytesS o ++ tail) (by rw [ByteArray.size_append]; omega) V)
  rw [hu2] at CV
  have q0 : tail.toList.isEmpty = true := by rw [size0.1 h0]; decide +kernel
  obtain ⟨t, htt⟩ : ∃ t, t = bytesS o := ⟨_, rfl⟩
  rw [← htt] at HP CF CU CV hts htp
  have q1 : (t.toList == t.toList) = true := by simp
  clear hp hsh hf hu1 hu2 htt h0
  clear b1 p1 hw1 hr hz hl
  go_enter Try.func5, Try.ntmps5
  go_upto_region 1 with (fail)
  rw [← HW.out, ← hx]
  clear hx
  go_wp2_with (fail)
  refine (awake_any _).mono ?_
  rintro e v1 ⟨rfl, hb⟩
  have K1 := Lib.hid (show Below w1.heap.size w1 v1 from hb)
  have PO1 := Lib.hid ((hb.block x (Array.getElem?_eq_some_iff.1 PO0.out).1).trans PO0.out)
  have RO1 := Lib.hid (RO0.out.below hb)
  clear hb
  go_wp2_with ((refine wpList_load_row rfl 32 (.tmp 2) rfl x rfl 32 _ (0, 0) _ PO1.out Try.underlying32 rfl size32 ?_))
  refine (CL.out _ RO1.out).mono ?_
  rintro e v2 ⟨rfl, hb⟩
  have K2 := Lib.hid (K1.out.trans (belowLe K1.out.size hb))
  have PO2 := Lib.hid ((hb.block x (Array.getElem?_eq_some_iff.1 PO1.out).1).trans PO1.out)
  have RO2 := Lib.hid (RO1.out.below hb)
  clear hb
  go_wp2_with ((refine wpList_load_row rfl 32 (.tmp 2) rfl x rfl 32 _ (0, 0) _ PO2.out Try.underlying32 rfl size32 ?_))
  have C1 := Lib.hid (pack_any o f l c p i HL.out v2 RO2.out)
  rw [HP.out] at C1
  refine (C1.out).mono ?_
  rintro e v3 ⟨rfl, hb⟩
  have K3 := Lib.hid (K2.out.trans (belowLe K2.out.size hb))
  have PO3 := Lib.hid ((hb.block x (Array.getElem?_eq_some_iff.1 PO2.out).1).trans PO2.out)
  have RO3 := Lib.hid (RO2.out.below hb)
  clear hb
  go_wp2_with ((refine wpList_load_row rfl 32 (.tmp 2) rfl x rfl 32 _ (0, 0) _ PO3.out Try.underlying32 rfl size32 ?_))
  have C2 := Lib.hid (rpack_any o f l c p i HL.out v3 RO3.out)
  rw [HP.out] at C2
  refine (C2.out).mono ?_
  rintro e v4 ⟨rfl, hb⟩
  have K4 := Lib.hid (K3.out.trans (belowLe K3.out.size hb))
  have PO4 := Lib.hid ((hb.block x (Array.getElem?_eq_some_iff.1 PO3.out).1).trans PO3.out)
  have RO4 := Lib.hid (RO3.out.below hb)
  clear hb
  go_wp2_with (fail)
  refine (CF.out _).mono ?_
  rintro e v5 ⟨f1, l1, c1, p1, i1, rfl, ow1, hb⟩
  have K5 := Lib.hid (K4.out.trans (belowLe K4.out.size hb))
  have PO5 := Lib.hid ((hb.block x (Array.getElem?_eq_some_iff.1 PO4.out).1).trans PO4.out)
  have RO5 := Lib.hid (RO4.out.below hb)
  clear hb
  have RA5 := Lib.hid (RowsR.of_owns ow1)
  clear ow1
  have b5 := bel_allocRow v5 #[.int .i64 0, .string ⟨#[]⟩, .int .i64 0, .int .i64 0, .bool false, .slice none 0 0, .slice none 0 0, .slice none 0 0, .string ⟨#[]⟩, .int .i64 0, .int .i64 0, .slice none 0 0, .slice none 0 0, .string ⟨#[]⟩, .string ⟨#[]⟩, .int .i64 0, .string ⟨#[]⟩, .string ⟨#[]⟩, .string ⟨#[]⟩] (oc o f1 l1 c1 p1 i1) 32
  obtain ⟨v6, hv5⟩ : ∃ z, z = (v5.alloc (.cells #[.int .i64 0, .string ⟨#[]⟩, .int .i64 0, .int .i64 0, .bool false, .slice none 0 0, .slice none 0 0, .slice none 0 0, .string ⟨#[]⟩, .int .i64 0, .int .i64 0, .slice none 0 0, .slice none 0 0, .string ⟨#[]⟩, .string ⟨#[]⟩, .int .i64 0, .string ⟨#[]⟩, .string ⟨#[]⟩, .string ⟨#[]⟩] 32)).setRow v5.heap.size (oc o f1 l1 c1 p1 i1) := ⟨_, rfl⟩
  rw [← hv5] at b5
  obtain ⟨tPA, htb⟩ : ∃ z, z = v5.heap.size := ⟨_, rfl⟩
  have p5 : v6.heap[tPA]? = some (.cells (oc o f1 l1 c1 p1 i1) 32 (0, 0)) := by rw [hv5, htb]; exact setRow_heap _ _ _ _ _ _ (G.heap_new _ _)
  have PA6 := Lib.hid p5
  clear p5
  have K6 := Lib.hid (K5.out.trans (belowLe K5.out.size b5))
  have PO6 := Lib.hid ((b5.block x (Array.getElem?_eq_some_iff.1 PO5.out).1).trans PO5.out)
  have RO6 := Lib.hid (RO5.out.below b5)
  have RA6 := Lib.hid (RA5.out.below b5)
  clear b5
  dsimp only
  rename_i hK
  refine hK _ _ ?_
  iterate 15 (first | go_values | go_skip | go_guarded | go_step | go_upon)
  refine wpList_store_row rfl 32 (.tmp 9) (.tmp 52) rfl _ (oc o f1 l1 c1 p1 i1) rfl rfl 32 _ (G.heap_new _ _) size32 rfl (oc_one o f1 l1 c1 p1 i1) ?_
  rw [← hv5, ← htb]
  clear hK hv5 htb
  go_wp2_with (fail)
  refine (CU.out _).mono ?_
  rintro e v7 ⟨f2, l2, c2, p2, i2, rfl, ow2, hb⟩
  have K7 := Lib.hid (K6.out.trans (belowLe K6.out.size hb))
  have PO7 := Lib.hid ((hb.block x (Array.getElem?_eq_some_iff.1 PO6.out).1).trans PO6.out)
  have PA7 := Lib.hid ((hb.block tPA (Array.getElem?_eq_some_iff.1 PA6.out).1).trans PA6.out)
  have RO7 := Lib.hid (RO6.out.below hb)
  have RA7 := Lib.hid (RA6.out.below hb)
  clear hb
  have RB7 := Lib.hid (RowsR.of_owns ow2)
  clear ow2
  have b5 := bel_allocRow v7 #[.int .i64 0, .string ⟨#[]⟩, .int .i64 0, .int .i64 0, .bool false, .slice none 0 0, .slice none 0 0, .slice none 0 0, .string ⟨#[]⟩, .int .i64 0, .int .i64 0, .slice none 0 0, .slice none 0 0, .string ⟨#[]⟩, .string ⟨#[]⟩, .int .i64 0, .string ⟨#[]⟩, .string ⟨#[]⟩, .string ⟨#[]⟩] (oc o f2 l2 c2 p2 i2) 32
  obtain ⟨v8, hv5⟩ : ∃ z, z = (v7.alloc (.cells #[.int .i64 0, .string ⟨#[]⟩, .int .i64 0, .int .i64 0, .bool false, .slice none 0 0, .slice none 0 0, .slice none 0 0, .string ⟨#[]⟩, .int .i64 0, .int .i64 0, .slice none 0 0, .slice none 0 0, .string ⟨#[]⟩, .string ⟨#[]⟩, .int .i64 0, .string ⟨#[]⟩, .string ⟨#[]⟩, .string ⟨#[]⟩] 32)).setRow v7.heap.size (oc o f2 l2 c2 p2 i2) := ⟨_, rfl⟩
  rw [← hv5] at b5
  obtain ⟨tPB, htb⟩ : ∃ z, z = v7.heap.size := ⟨_, rfl⟩
  have p5 : v8.heap[tPB]? = some (.cells (oc o f2 l2 c2 p2 i2) 32 (0, 0)) := by rw [hv5, htb]; exact setRow_heap _ _ _ _ _ _ (G.heap_new _ _)
  have PB8 := Lib.hid p5
  clear p5
  have K8 := Lib.hid (K7.out.trans (belowLe K7.out.size b5))
  have PO8 := Lib.hid ((b5.block x (Array.getElem?_eq_some_iff.1 PO7.out).1).trans PO7.out)
  have PA8 := Lib.hid ((b5.block tPA (Array.getElem?_eq_some_iff.1 PA7.out).1).trans PA7.out)
  have RO8 := Lib.hid (RO7.out.below b5)
  have RA8 := Lib.hid (RA7.out.below b5)
  have RB8 := Lib.hid (RB7.out.below b5)
  clear b5
  dsimp only
  rename_i hK
  refine hK _ _ ?_
  iterate 12 (first | go_values | go_skip | go_guarded | go_step | go_upon)
  refine wpList_store_row rfl 32 (.tmp 12) (.tmp 58) rfl _ (oc o f2 l2 c2 p2 i2) rfl rfl 32 _ (G.heap_new _ _) size32 rfl (oc_one o f2 l2 c2 p2 i2) ?_
  rw [← hv5, ← htb]
  clear hK hv5 htb
  go_wp2_with (fail)
  refine (CV.out _).mono ?_
  rintro e v9 ⟨f3, l3, c3, p3, i3, rfl, ow3, hb⟩
  have K9 := Lib.hid (K8.out.trans (belowLe K8.out.size hb))
  have PO9 := Lib.hid ((hb.block x (Array.getElem?_eq_some_iff.1 PO8.out).1).trans PO8.out)
  have PA9 := Lib.hid ((hb.block tPA (Array.getElem?_eq_some_iff.1 PA8.out).1).trans PA8.out)
  have PB9 := Lib.hid ((hb.block tPB (Array.getElem?_eq_some_iff.1 PB8.out).1).trans PB8.out)
  have RO9 := Lib.hid (RO8.out.below hb)
  have RA9 := Lib.hid (RA8.out.below hb)
  have RB9 := Lib.hid (RB8.out.below hb)
  clear hb
  clear ow3
  have b5 := bel_allocRow v9 #[.int .i64 0, .string ⟨#[]⟩, .int .i64 0, .int .i64 0, .bool false, .slice none 0 0, .slice none 0 0, .slice none 0 0, .string ⟨#[]⟩, .int .i64 0, .int .i64 0, .slice none 0 0, .slice none 0 0, .string ⟨#[]⟩, .string ⟨#[]⟩, .int .i64 0, .string ⟨#[]⟩, .string ⟨#[]⟩, .string ⟨#[]⟩] (oc o f3 l3 c3 p3 i3) 32
  obtain ⟨v10, hv5⟩ : ∃ z, z = (v9.alloc (.cells #[.int .i64 0, .string ⟨#[]⟩, .int .i64 0, .int .i64 0, .bool false, .slice none 0 0, .slice none 0 0, .slice none 0 0, .string ⟨#[]⟩, .int .i64 0, .int .i64 0, .slice none 0 0, .slice none 0 0, .string ⟨#[]⟩, .string ⟨#[]⟩, .int .i64 0, .string ⟨#[]⟩, .string ⟨#[]⟩, .string ⟨#[]⟩] 32)).setRow v9.heap.size (oc o f3 l3 c3 p3 i3) := ⟨_, rfl⟩
  rw [← hv5] at b5
  obtain ⟨tPC, htb⟩ : ∃ z, z = v9.heap.size := ⟨_, rfl⟩
  have p5 : v10.heap[tPC]? = some (.cells (oc o f3 l3 c3 p3 i3) 32 (0, 0)) := by rw [hv5, htb]; exact setRow_heap _ _ _ _ _ _ (G.heap_new _ _)
  have PC10 := Lib.hid p5
  clear p5
  have K10 := Lib.hid (K9.out.trans (belowLe K9.out.size b5))
  have PO10 := Lib.hid ((b5.block x (Array.getElem?_eq_some_iff.1 PO9.out).1).trans PO9.out)
  have PA10 := Lib.hid ((b5.block tPA (Array.getElem?_eq_some_iff.1 PA9.out).1).trans PA9.out)
  have PB10 := Lib.hid ((b5.block tPB (Array.getElem?_eq_some_iff.1 PB9.out).1).trans PB9.out)
  have RO10 := Lib.hid (RO9.out.below b5)
  have RA10 := Lib.hid (RA9.out.below b5)
  have RB10 := Lib.hid (RB9.out.below b5)
  clear b5
  dsimp only
  rename_i hK
  refine hK _ _ ?_
  iterate 12 (first | go_values | go_skip | go_guarded | go_step | go_upon)
  refine wpList_store_row rfl 32 (.tmp 14) (.tmp 65) rfl _ (oc o f3 l3 c3 p3 i3) rfl rfl 32 _ (G.heap_new _ _) size32 rfl (oc_one o f3 l3 c3 p3 i3) ?_
  rw [← hv5, ← htb]
  clear hK hv5 htb
  go_upto_region 14 with (fail)
  repeat (first | ((refine wp_load_row 32 (.tmp 9) rfl tPA rfl 32 _ (0, 0) _ PA10.out Try.underlying32 rfl size32 ?_); (try simp only [Act.put, List.setIfInBounds_toArray, List.set_cons_zero, List.set_cons_succ])) | ((refine wp_load_row 32 (.tmp 2) rfl x rfl 32 _ (0, 0) _ PO10.out Try.underlying32 rfl size32 ?_); (try simp only [Act.put, List.setIfInBounds_toArray, List.set_cons_zero, List.set_cons_succ])) | go_values | go_skip | go_guarded | go_step)
  go_wp2_with (fail)
  have C4 := Lib.hid (same14_any o o f1 l1 c1 p1 i1 f l c p i HL.out v10 RA10.out RO10.out)
  rw [sameB_self] at C4
  refine (C4.out).mono ?_
  rintro e v11 ⟨rfl, hb⟩
  have K11 := Lib.hid (K10.out.trans (belowLe K10.out.size hb))
  have PO11 := Lib.hid ((hb.block x (Array.getElem?_eq_some_iff.1 PO10.out).1).trans PO10.out)
  have PA11 := Lib.hid ((hb.block tPA (Array.getElem?_eq_some_iff.1 PA10.out).1).trans PA10.out)
  have PB11 := Lib.hid ((hb.block tPB (Array.getElem?_eq_some_iff.1 PB10.out).1).trans PB10.out)
  have PC11 := Lib.hid ((hb.block tPC (Array.getElem?_eq_some_iff.1 PC10.out).1).trans PC10.out)
  have RO11 := Lib.hid (RO10.out.below hb)
  have RA11 := Lib.hid (RA10.out.below hb)
  have RB11 := Lib.hid (RB10.out.below hb)
  clear hb
  dsimp only
  rename_i hK
  refine hK _ _ ?_
  clear hK
  repeat (first | ((refine wp_load_row 32 (.tmp 12) rfl tPB rfl 32 _ (0, 0) _ PB11.out Try.underlying32 rfl size32 ?_); (try simp only [Act.put, List.setIfInBounds_toArray, List.set_cons_zero, List.set_cons_succ])) | ((refine wp_load_row 32 (.tmp 2) rfl x rfl 32 _ (0, 0) _ PO11.out Try.underlying32 rfl size32 ?_); (try simp only [Act.put, List.setIfInBounds_toArray, List.set_cons_zero, List.set_cons_succ])) | go_values | go_skip | go_guarded | go_step)
  go_wp2_with (fail)
  have C5 := Lib.hid (same14_any o o f2 l2 c2 p2 i2 f l c p i HL.out v11 RB11.out RO11.out)
  rw [sameB_self] at C5
  refine (C5.out).mono ?_
  rintro e v12 ⟨rfl, hb⟩
  have K12 := Lib.hid (K11.out.trans (belowLe K11.out.size hb))
  have PO12 := Lib.hid ((hb.block x (Array.getElem?_eq_some_iff.1 PO11.out).1).trans PO11.out)
  have PA12 := Lib.hid ((hb.block tPA (Array.getElem?_eq_some_iff.1 PA11.out).1).trans PA11.out)
  have PB12 := Lib.hid ((hb.block tPB (Array.getElem?_eq_some_iff.1 PB11.out).1).trans PB11.out)
  have PC12 := Lib.hid ((hb.block tPC (Array.getElem?_eq_some_iff.1 PC11.out).1).trans PC11.out)
  have RO12 := Lib.hid (RO11.out.below hb)
  have RA12 := Lib.hid (RA11.out.below hb)
  have RB12 := Lib.hid (RB11.out.below hb)
  clear hb
  go_wp2
  go_ret
  exact ⟨rfl, B1.out.trans (belowLe B1.out.size K12.out)⟩
set_option maxRecDepth 100000 in
set_option maxHeartbeats 8000000 in
theorem packs_some (o : Ob) (f l c p i : Sl) (hz : ObSz o) (tail : ByteArray) (hl : longO o = false) (ht : (tail.size : Int) ≤ 1000) (hsh : CodP.shape o = true) (h0 : ¬ tail.size = 0) (w : World) (hr : RowsR w o f l c p i) :
    Calls Try.prog 5 #[.agg (oc o f l c p i), .string tail] w fun e w' => e = .returned (.bool true) ∧ Below w.heap.size w w' := by
  obtain ⟨w1, hw1, b1, p1⟩ := box_one w (oc o f l c p i) 32
  obtain ⟨x, hx⟩ : ∃ x, x = w.heap.size := ⟨_, rfl⟩
  rw [← hx] at p1
  have RO0 := Lib.hid (hr.below b1)
  have PO0 := Lib.hid p1
  have HW := Lib.hid hw1
  have B1 := Lib.hid b1
  have HZ := Lib.hid hz
  have CL := Lib.hid (fun V (h : RowsR V o f l c p i) => long_any o f l c p i hz V h)
  rw [hl] at CL
  have hle := long_le o hl
  have HL := Lib.hid (show o.fins.length ≤ 1000000 ∧ o.labels.length ≤ 1000000 ∧ o.cidrs.length ≤ 1000000 ∧ o.fams.length ≤ 1000000 ∧ o.ips.length ≤ 1000000 from ⟨by omega, by omega, by omega, by omega, by omega⟩)
  clear hle
  have hp : packS o = (bytesS o, 0) := by unfold packS; rw [hsh]; rfl
  have HP := Lib.hid hp
  have hf := first_back o hsh tail
  have hu1 := unpack_back o hsh ⟨#[]⟩
  rw [if_pos (show (⟨#[]⟩ : ByteArray).size = 0 from rfl), append_nil] at hu1
  have hu2 := unpack_back o hsh tail
  rw [if_neg h0] at hu2
  have hts := bytesS_le o hsh
  have htp := bytesS_pos o
  have CF := Lib.hid (fun V => first_any (bytesS o ++ tail) (by rw [ByteArray.size_append]; omega) V)
  rw [hf] at CF
  have CU := Lib.hid (fun V => unpack_any (bytesS o) (by omega) V)
  rw [hu1] at CU
  have CV := Lib.hid (fun V => unpack_any (bytesS o ++ tail) (by rw [ByteArray.size_append]; omega) V)
  rw [hu2] at CV
  have q0 : tail.toList.isEmpty = false := not_empty h0
  obtain ⟨t, htt⟩ : ∃ t, t = bytesS o := ⟨_, rfl⟩
  rw [← htt] at HP CF CU CV hts htp
  have q1 : (t.toList == t.toList) = true := by simp
  clear hp hsh hf hu1 hu2 htt h0
  clear b1 p1 hw1 hr hz hl
  go_enter Try.func5, Try.ntmps5
  go_upto_region 1 with (fail)
  rw [← HW.out, ← hx]
  clear hx
  go_wp2_with (fail)
  refine (awake_any _).mono ?_
  rintro e v1 ⟨rfl, hb⟩
  have K1 := Lib.hid (show Below w1.heap.size w1 v1 from hb)
  have PO1 := Lib.hid ((hb.block x (Array.getElem?_eq_some_iff.1 PO0.out).1).trans PO0.out)
  have RO1 := Lib.hid (RO0.out.below hb)
  clear hb
  go_wp2_with ((refine wpList_load_row rfl 32 (.tmp 2) rfl x rfl 32 _ (0, 0) _ PO1.out Try.underlying32 rfl size32 ?_))
  refine (CL.out _ RO1.out).mono ?_
  rintro e v2 ⟨rfl, hb⟩
  have K2 := Lib.hid (K1.out.trans (belowLe K1.out.size hb))
  have PO2 := Lib.hid ((hb.block x (Array.getElem?_eq_some_iff.1 PO1.out).1).trans PO1.out)
  have RO2 := Lib.hid (RO1.out.below hb)
  clear hb
  go_wp2_with ((refine wpList_load_row rfl 32 (.tmp 2) rfl x rfl 32 _ (0, 0) _ PO2.out Try.underlying32 rfl size32 ?_))
  have C1 := Lib.hid (pack_any o f l c p i HL.out v2 RO2.out)
  rw [HP.out] at C1
  refine (C1.out).mono ?_
  rintro e v3 ⟨rfl, hb⟩
  have K3 := Lib.hid (K2.out.trans (belowLe K2.out.size hb))
  have PO3 := Lib.hid ((hb.block x (Array.getElem?_eq_some_iff.1 PO2.out).1).trans PO2.out)
  have RO3 := Lib.hid (RO2.out.below hb)
  clear hb
  go_wp2_with ((refine wpList_load_row rfl 32 (.tmp 2) rfl x rfl 32 _ (0, 0) _ PO3.out Try.underlying32 rfl size32 ?_))
  have C2 := Lib.hid (rpack_any o f l c p i HL.out v3 RO3.out)
  rw [HP.out] at C2
  refine (C2.out).mono ?_
  rintro e v4 ⟨rfl, hb⟩
  have K4 := Lib.hid (K3.out.trans (belowLe K3.out.size hb))
  have PO4 := Lib.hid ((hb.block x (Array.getElem?_eq_some_iff.1 PO3.out).1).trans PO3.out)
  have RO4 := Lib.hid (RO3.out.below hb)
  clear hb
  go_wp2_with (fail)
  refine (CF.out _).mono ?_
  rintro e v5 ⟨f1, l1, c1, p1, i1, rfl, ow1, hb⟩
  have K5 := Lib.hid (K4.out.trans (belowLe K4.out.size hb))
  have PO5 := Lib.hid ((hb.block x (Array.getElem?_eq_some_iff.1 PO4.out).1).trans PO4.out)
  have RO5 := Lib.hid (RO4.out.below hb)
  clear hb
  have RA5 := Lib.hid (RowsR.of_owns ow1)
  clear ow1
  have b5 := bel_allocRow v5 #[.int .i64 0, .string ⟨#[]⟩, .int .i64 0, .int .i64 0, .bool false, .slice none 0 0, .slice none 0 0, .slice none 0 0, .string ⟨#[]⟩, .int .i64 0, .int .i64 0, .slice none 0 0, .slice none 0 0, .string ⟨#[]⟩, .string ⟨#[]⟩, .int .i64 0, .string ⟨#[]⟩, .string ⟨#[]⟩, .string ⟨#[]⟩] (oc o f1 l1 c1 p1 i1) 32
  obtain ⟨v6, hv5⟩ : ∃ z, z = (v5.alloc (.cells #[.int .i64 0, .string ⟨#[]⟩, .int .i64 0, .int .i64 0, .bool false, .slice none 0 0, .slice none 0 0, .slice none 0 0, .string ⟨#[]⟩, .int .i64 0, .int .i64 0, .slice none 0 0, .slice none 0 0, .string ⟨#[]⟩, .string ⟨#[]⟩, .int .i64 0, .string ⟨#[]⟩, .string ⟨#[]⟩, .string ⟨#[]⟩] 32)).setRow v5.heap.size (oc o f1 l1 c1 p1 i1) := ⟨_, rfl⟩
  rw [← hv5] at b5
  obtain ⟨tPA, htb⟩ : ∃ z, z = v5.heap.size := ⟨_, rfl⟩
  have p5 : v6.heap[tPA]? = some (.cells (oc o f1 l1 c1 p1 i1) 32 (0, 0)) := by rw [hv5, htb]; exact setRow_heap _ _ _ _ _ _ (G.heap_new _ _)
  have PA6 := Lib.hid p5
  clear p5
  have K6 := Lib.hid (K5.out.trans (belowLe K5.out.size b5))
  have PO6 := Lib.hid ((b5.block x (Array.getElem?_eq_some_iff.1 PO5.out).1).trans PO5.out)
  have RO6 := Lib.hid (RO5.out.below b5)
  have RA6 := Lib.hid (RA5.out.below b5)
  clear b5
  dsimp only
  rename_i hK
  refine hK _ _ ?_
  iterate 15 (first | go_values | go_skip | go_guarded | go_step | go_upon)
  refine wpList_store_row rfl 32 (.tmp 9) (.tmp 52) rfl _ (oc o f1 l1 c1 p1 i1) rfl rfl 32 _ (G.heap_new _ _) size32 rfl (oc_one o f1 l1 c1 p1 i1) ?_
  rw [← hv5, ← htb]
  clear hK hv5 htb
  go_wp2_with (fail)
  refine (CU.out _).mono ?_
  rintro e v7 ⟨f2, l2, c2, p2, i2, rfl, ow2, hb⟩
  have K7 := Lib.hid (K6.out.trans (belowLe K6.out.size hb))
  have PO7 := Lib.hid ((hb.block x (Array.getElem?_eq_some_iff.1 PO6.out).1).trans PO6.out)
  have PA7 := Lib.hid ((hb.block tPA (Array.getElem?_eq_some_iff.1 PA6.out).1).trans PA6.out)
  have RO7 := Lib.hid (RO6.out.below hb)
  have RA7 := Lib.hid (RA6.out.below hb)
  clear hb
  have RB7 := Lib.hid (RowsR.of_owns ow2)
  clear ow2
  have b5 := bel_allocRow v7 #[.int .i64 0, .string ⟨#[]⟩, .int .i64 0, .int .i64 0, .bool false, .slice none 0 0, .slice none 0 0, .slice none 0 0, .string ⟨#[]⟩, .int .i64 0, .int .i64 0, .slice none 0 0, .slice none 0 0, .string ⟨#[]⟩, .string ⟨#[]⟩, .int .i64 0, .string ⟨#[]⟩, .string ⟨#[]⟩, .string ⟨#[]⟩] (oc o f2 l2 c2 p2 i2) 32
  obtain ⟨v8, hv5⟩ : ∃ z, z = (v7.alloc (.cells #[.int .i64 0, .string ⟨#[]⟩, .int .i64 0, .int .i64 0, .bool false, .slice none 0 0, .slice none 0 0, .slice none 0 0, .string ⟨#[]⟩, .int .i64 0, .int .i64 0, .slice none 0 0, .slice none 0 0, .string ⟨#[]⟩, .string ⟨#[]⟩, .int .i64 0, .string ⟨#[]⟩, .string ⟨#[]⟩, .string ⟨#[]⟩] 32)).setRow v7.heap.size (oc o f2 l2 c2 p2 i2) := ⟨_, rfl⟩
  rw [← hv5] at b5
  obtain ⟨tPB, htb⟩ : ∃ z, z = v7.heap.size := ⟨_, rfl⟩
  have p5 : v8.heap[tPB]? = some (.cells (oc o f2 l2 c2 p2 i2) 32 (0, 0)) := by rw [hv5, htb]; exact setRow_heap _ _ _ _ _ _ (G.heap_new _ _)
  have PB8 := Lib.hid p5
  clear p5
  have K8 := Lib.hid (K7.out.trans (belowLe K7.out.size b5))
  have PO8 := Lib.hid ((b5.block x (Array.getElem?_eq_some_iff.1 PO7.out).1).trans PO7.out)
  have PA8 := Lib.hid ((b5.block tPA (Array.getElem?_eq_some_iff.1 PA7.out).1).trans PA7.out)
  have RO8 := Lib.hid (RO7.out.below b5)
  have RA8 := Lib.hid (RA7.out.below b5)
  have RB8 := Lib.hid (RB7.out.below b5)
  clear b5
  dsimp only
  rename_i hK
  refine hK _ _ ?_
  iterate 12 (first | go_values | go_skip | go_guarded | go_step | go_upon)
  refine wpList_store_row rfl 32 (.tmp 12) (.tmp 58) rfl _ (oc o f2 l2 c2 p2 i2) rfl rfl 32 _ (G.heap_new _ _) size32 rfl (oc_one o f2 l2 c2 p2 i2) ?_
  rw [← hv5, ← htb]
  clear hK hv5 htb
  go_wp2_with (fail)
  refine (CV.out _).mono ?_
  rintro e v9 ⟨f3, l3, c3, p3, i3, rfl, ow3, hb⟩
  have K9 := Lib.hid (K8.out.trans (belowLe K8.out.size hb))
  have PO9 := Lib.hid ((hb.block x (Array.getElem?_eq_some_iff.1 PO8.out).1).trans PO8.out)
  have PA9 := Lib.hid ((hb.block tPA (Array.getElem?_eq_some_iff.1 PA8.out).1).trans PA8.out)
  have PB9 := Lib.hid ((hb.block tPB (Array.getElem?_eq_some_iff.1 PB8.out).1).trans PB8.out)
  have RO9 := Lib.hid (RO8.out.below hb)
  have RA9 := Lib.hid (RA8.out.below hb)
  have RB9 := Lib.hid (RB8.out.below hb)
  clear hb
  clear ow3
  have b5 := bel_allocRow v9 #[.int .i64 0, .string ⟨#[]⟩, .int .i64 0, .int .i64 0, .bool false, .slice none 0 0, .slice none 0 0, .slice none 0 0, .string ⟨#[]⟩, .int .i64 0, .int .i64 0, .slice none 0 0, .slice none 0 0, .string ⟨#[]⟩, .string ⟨#[]⟩, .int .i64 0, .string ⟨#[]⟩, .string ⟨#[]⟩, .string ⟨#[]⟩] (oc zeroOb f3 l3 c3 p3 i3) 32
  obtain ⟨v10, hv5⟩ : ∃ z, z = (v9.alloc (.cells #[.int .i64 0, .string ⟨#[]⟩, .int .i64 0, .int .i64 0, .bool false, .slice none 0 0, .slice none 0 0, .slice none 0 0, .string ⟨#[]⟩, .int .i64 0, .int .i64 0, .slice none 0 0, .slice none 0 0, .string ⟨#[]⟩, .string ⟨#[]⟩, .int .i64 0, .string ⟨#[]⟩, .string ⟨#[]⟩, .string ⟨#[]⟩] 32)).setRow v9.heap.size (oc zeroOb f3 l3 c3 p3 i3) := ⟨_, rfl⟩
  rw [← hv5] at b5
  obtain ⟨tPC, htb⟩ : ∃ z, z = v9.heap.size := ⟨_, rfl⟩
  have p5 : v10.heap[tPC]? = some (.cells (oc zeroOb f3 l3 c3 p3 i3) 32 (0, 0)) := by rw [hv5, htb]; exact setRow_heap _ _ _ _ _ _ (G.heap_new _ _)
  have PC10 := Lib.hid p5
  clear p5
  have K10 := Lib.hid (K9.out.trans (belowLe K9.out.size b5))
  have PO10 := Lib.hid ((b5.block x (Array.getElem?_eq_some_iff.1 PO9.out).1).trans PO9.out)
  have PA10 := Lib.hid ((b5.block tPA (Array.getElem?_eq_some_iff.1 PA9.out).1).trans PA9.out)
  have PB10 := Lib.hid ((b5.block tPB (Array.getElem?_eq_some_iff.1 PB9.out).1).trans PB9.out)
  have RO10 := Lib.hid (RO9.out.below b5)
  have RA10 := Lib.hid (RA9.out.below b5)
  have RB10 := Lib.hid (RB9.out.below b5)
  clear b5
  dsimp only
  rename_i hK
  refine hK _ _ ?_
  iterate 12 (first | go_values | go_skip | go_guarded | go_step | go_upon)
  refine wpList_store_row rfl 32 (.tmp 14) (.tmp 65) rfl _ (oc zeroOb f3 l3 c3 p3 i3) rfl rfl 32 _ (G.heap_new _ _) size32 rfl (oc_one zeroOb f3 l3 c3 p3 i3) ?_
  rw [← hv5, ← htb]
  clear hK hv5 htb
  go_upto_region 14 with (fail)
  repeat (first | ((refine wp_load_row 32 (.tmp 9) rfl tPA rfl 32 _ (0, 0) _ PA10.out Try.underlying32 rfl size32 ?_); (try simp only [Act.put, List.setIfInBounds_toArray, List.set_cons_zero, List.set_cons_succ])) | ((refine wp_load_row 32 (.tmp 2) rfl x rfl 32 _ (0, 0) _ PO10.out Try.underlying32 rfl size32 ?_); (try simp only [Act.put, List.setIfInBounds_toArray, List.set_cons_zero, List.set_cons_succ])) | go_values | go_skip | go_guarded | go_step)
  go_wp2_with (fail)
  have C4 := Lib.hid (same14_any o o f1 l1 c1 p1 i1 f l c p i HL.out v10 RA10.out RO10.out)
  rw [sameB_self] at C4
  refine (C4.out).mono ?_
  rintro e v11 ⟨rfl, hb⟩
  have K11 := Lib.hid (K10.out.trans (belowLe K10.out.size hb))
  have PO11 := Lib.hid ((hb.block x (Array.getElem?_eq_some_iff.1 PO10.out).1).trans PO10.out)
  have PA11 := Lib.hid ((hb.block tPA (Array.getElem?_eq_some_iff.1 PA10.out).1).trans PA10.out)
  have PB11 := Lib.hid ((hb.block tPB (Array.getElem?_eq_some_iff.1 PB10.out).1).trans PB10.out)
  have PC11 := Lib.hid ((hb.block tPC (Array.getElem?_eq_some_iff.1 PC10.out).1).trans PC10.out)
  have RO11 := Lib.hid (RO10.out.below hb)
  have RA11 := Lib.hid (RA10.out.below hb)
  have RB11 := Lib.hid (RB10.out.below hb)
  clear hb
  dsimp only
  rename_i hK
  refine hK _ _ ?_
  clear hK
  repeat (first | ((refine wp_load_row 32 (.tmp 12) rfl tPB rfl 32 _ (0, 0) _ PB11.out Try.underlying32 rfl size32 ?_); (try simp only [Act.put, List.setIfInBounds_toArray, List.set_cons_zero, List.set_cons_succ])) | ((refine wp_load_row 32 (.tmp 2) rfl x rfl 32 _ (0, 0) _ PO11.out Try.underlying32 rfl size32 ?_); (try simp only [Act.put, List.setIfInBounds_toArray, List.set_cons_zero, List.set_cons_succ])) | go_values | go_skip | go_guarded | go_step)
  go_wp2_with (fail)
  have C5 := Lib.hid (same14_any o o f2 l2 c2 p2 i2 f l c p i HL.out v11 RB11.out RO11.out)
  rw [sameB_self] at C5
  refine (C5.out).mono ?_
  rintro e v12 ⟨rfl, hb⟩
  have K12 := Lib.hid (K11.out.trans (belowLe K11.out.size hb))
  have PO12 := Lib.hid ((hb.block x (Array.getElem?_eq_some_iff.1 PO11.out).1).trans PO11.out)
  have PA12 := Lib.hid ((hb.block tPA (Array.getElem?_eq_some_iff.1 PA11.out).1).trans PA11.out)
  have PB12 := Lib.hid ((hb.block tPB (Array.getElem?_eq_some_iff.1 PB11.out).1).trans PB11.out)
  have PC12 := Lib.hid ((hb.block tPC (Array.getElem?_eq_some_iff.1 PC11.out).1).trans PC11.out)
  have RO12 := Lib.hid (RO11.out.below hb)
  have RA12 := Lib.hid (RA11.out.below hb)
  have RB12 := Lib.hid (RB11.out.below hb)
  clear hb
  go_wp2
  go_ret
  exact ⟨rfl, B1.out.trans (belowLe B1.out.size K12.out)⟩
theorem packs_row (o : Ob) (f l c p i : Sl) (W : World) (hr : RowsR W o f l c p i) (hz : ObSz o) (tail : ByteArray) (_ : tail.size ≤ 140737488351232) (w : World) (hw : w = W) :
    Calls Try.prog 5 #[.agg (oc o f l c p i), .string tail] w fun e w' => e = .returned (.bool true) ∧ Below w.heap.size w w' := by
  subst hw
  cases hl : longO o
  rotate_left
  · exact packs_long o f l c p i hz tail hl w hr
  by_cases ht : (1000 : Int) < tail.size
  · exact packs_tail o f l c p i hz tail hl ht w hr
  cases hsh : CodP.shape o
  · exact packs_bad o f l c p i hz tail hl (by omega) hsh w hr
  by_cases h0 : tail.size = 0
  · exact packs_none o f l c p i hz tail hl (by omega) hsh h0 w hr
  · exact packs_some o f l c p i hz tail hl (by omega) hsh h0 w hr
end Go.Proofs.Ytolndeolehkjoaa
