/- The walk of CodecShort. -/
import Derived.Test.YtolndeolehkjoaaAw1
import Derived.Test.YtolndeolehkjoaaLg2
import Derived.Test.YtolndeolehkjoaaSm1
import Derived.Test.YtolndeolehkjoaaCodT
namespace Go.Proofs.Ytolndeolehkjoaa
set_option linter.unusedVariables false
set_option linter.unusedSimpArgs false
open Go.RowKit CodP
theorem sameB_self (a : Ob) : sameB a a = true := by simp [sameB, flatB]
theorem cut_of (cut : Int) (m : Nat) (h0 : 0 < m) (h : m ≤ 20000) : ∃ n : Nat, wrap64 ((IntKind.u64.wrap cut).tmod m) = n ∧ n < m := by
  have h1 : IntKind.u64.wrap cut = cut % 18446744073709551616 := rfl
  rw [h1, Int.tmod_eq_emod_of_nonneg (by omega)]
  have h2 := Int.emod_nonneg (cut % 18446744073709551616) (show (m : Int) ≠ 0 by omega)
  have h3 := Int.emod_lt_of_pos (cut % 18446744073709551616) (show (0 : Int) < m by omega)
  refine ⟨(cut % 18446744073709551616 % m).toNat, ?_, ?_⟩
  · rw [wr64 (by omega)]; omega
  · omega
theorem RowsR.zero (w : World) : RowsR w zeroOb Sl0 Sl0 Sl0 Sl0 Sl0 := ⟨RowR.nil _ _, RowR.nil _ _, RowR.nil _ _, RowR.nil _ _, RowR.nil _ _⟩
theorem zero_len : zeroOb.fins.length ≤ 1000000 ∧ zeroOb.labels.length ≤ 1000000 ∧ zeroOb.cidrs.length ≤ 1000000 ∧ zeroOb.fams.length ≤ 1000000 ∧ zeroOb.ips.length ≤ 1000000 := by decide
set_option maxRecDepth 100000 in
set_option maxHeartbeats 4000000 in
theorem short_ok (o : Ob) (f l c p i : Sl) (hz : ObSz o) (cut : Int) (hl : longO o = false) (hsh : CodP.shape o = true) (w : World) (hr : RowsR w o f l c p i) :
    Calls Try.prog 4 #[.agg (oc o f l c p i), .int .i64 cut] w fun e w' => e = .returned (.bool true) ∧ Below w.heap.size w w' := by
  obtain ⟨w1, hw1, b1, p1⟩ := box_one w (oc o f l c p i) 32
  obtain ⟨x, hx⟩ : ∃ x, x = w.heap.size := ⟨_, rfl⟩
  rw [← hx] at p1
  have hle := long_le o hl
  have R1 := Lib.hid (hr.below b1)
  have C1 := Lib.hid (fun V (h : Below w1.heap.size w1 V) => long_any o f l c p i hz V (R1.out.below h))
  have C2 := Lib.hid (fun V (h : Below w1.heap.size w1 V) => pack_any o f l c p i ⟨by omega, by omega, by omega, by omega, by omega⟩ V (R1.out.below h))
  have hp : packS o = (bytesS o, 0) := by unfold packS; rw [hsh]; rfl
  rw [hp] at C2
  rw [hl] at C1
  have P1 := Lib.hid p1
  have HW := Lib.hid hw1
  have B1 := Lib.hid b1
  have hts := bytesS_le o hsh
  have htp := bytesS_pos o
  obtain ⟨n, hn, hnl⟩ := cut_of cut (bytesS o).size htp hts
  have hfs := first_short o hsh n hnl
  have C3 := Lib.hid (fun V => first_any ((bytesS o).extract 0 n) (by rw [ByteArray.size_extract]; omega) V)
  rw [hfs] at C3
  obtain ⟨t, ht⟩ : ∃ t, t = bytesS o := ⟨_, rfl⟩
  rw [← ht] at hts htp hn hnl C2 C3
  have hlz : ((t.size : Int) == 0) = false := beq_eq_false_iff_ne.2 (by omega)
  clear b1 p1 hw1 hr hz hl hle hsh hp ht hfs
  go_enter Try.func4, Try.ntmps4
  go_upto_region 1 with (fail)
  rw [← HW.out, ← hx]
  clear hx
  go_wp2_with (fail)
  refine (awake_any _).mono ?_
  rintro e v1 ⟨rfl, hb1⟩
  have K1 := Lib.hid hb1
  have P2 := Lib.hid ((hb1.block x (Array.getElem?_eq_some_iff.1 P1.out).1).trans P1.out)
  clear hb1
  go_wp2_with (refine wpList_load_row rfl 32 (.tmp 2) rfl x rfl 32 _ (0, 0) _ P2.out Try.underlying32 rfl size32 ?_)
  refine (C1.out _ K1.out).mono ?_
  rintro e v2 ⟨rfl, hb2⟩
  have K2 := Lib.hid (K1.out.trans (belowLe K1.out.size hb2))
  have P3 := Lib.hid ((hb2.block x (Array.getElem?_eq_some_iff.1 P2.out).1).trans P2.out)
  clear hb2
  go_wp2_with (refine wpList_load_row rfl 32 (.tmp 2) rfl x rfl 32 _ (0, 0) _ P3.out Try.underlying32 rfl size32 ?_)
  refine (C2.out _ K2.out).mono ?_
  rintro e v3 ⟨rfl, hb3⟩
  have K3 := Lib.hid (K2.out.trans (belowLe K2.out.size hb3))
  clear hb3
  have hnl2 : (n : Int) ≤ t.size := by omega
  go_wp2_with (fail)
  refine (C3.out _).mono ?_
  rintro e v4 ⟨f', l', c', p', i', rfl, ow, hb4⟩
  have K4 := Lib.hid (K3.out.trans (belowLe K3.out.size hb4))
  have b5 := bel_allocRow v4 #[.int .i64 0, .string ⟨#[]⟩, .int .i64 0, .int .i64 0, .bool false, .slice none 0 0, .slice none 0 0, .slice none 0 0, .string ⟨#[]⟩, .int .i64 0, .int .i64 0, .slice none 0 0, .slice none 0 0, .string ⟨#[]⟩, .string ⟨#[]⟩, .int .i64 0, .string ⟨#[]⟩, .string ⟨#[]⟩, .string ⟨#[]⟩] (oc zeroOb f' l' c' p' i') 32
  obtain ⟨v5, hv5⟩ : ∃ v5, v5 = (v4.alloc (.cells #[.int .i64 0, .string ⟨#[]⟩, .int .i64 0, .int .i64 0, .bool false, .slice none 0 0, .slice none 0 0, .slice none 0 0, .string ⟨#[]⟩, .int .i64 0, .int .i64 0, .slice none 0 0, .slice none 0 0, .string ⟨#[]⟩, .string ⟨#[]⟩, .int .i64 0, .string ⟨#[]⟩, .string ⟨#[]⟩, .string ⟨#[]⟩] 32)).setRow v4.heap.size (oc zeroOb f' l' c' p' i') := ⟨_, rfl⟩
  rw [← hv5] at b5
  obtain ⟨tb, htb⟩ : ∃ tb, tb = v4.heap.size := ⟨_, rfl⟩
  have p5 : v5.heap[tb]? = some (.cells (oc zeroOb f' l' c' p' i') 32 (0, 0)) := by rw [hv5, htb]; exact setRow_heap _ _ _ _ _ _ (G.heap_new _ _)
  have P5 := Lib.hid p5
  clear p5
  have C4 := Lib.hid (same14_any zeroOb zeroOb f' l' c' p' i' Sl0 Sl0 Sl0 Sl0 Sl0 zero_len v5 ((RowsR.of_owns ow).below b5) (RowsR.zero v5))
  rw [sameB_self] at C4
  have K5 := Lib.hid (K4.out.trans (belowLe K4.out.size b5))
  dsimp only
  rename_i hK
  refine hK _ _ ?_
  clear hb4 ow b5
  iterate 15 (first | go_values | go_skip | go_guarded | go_step | go_upon)
  refine wpList_store_row rfl 32 (.tmp 7) (.tmp 35) rfl _ (oc zeroOb f' l' c' p' i') rfl rfl 32 _ (G.heap_new _ _) size32 rfl (oc_one zeroOb f' l' c' p' i') ?_
  rw [← hv5, ← htb]
  clear hK hv5 htb
  go_upto_region 11 with (fail)
  repeat (first | (refine wp_load_row 32 (.tmp 7) rfl tb rfl 32 _ (0, 0) _ P5.out Try.underlying32 rfl size32 ?_) | go_values | go_skip | go_guarded | go_step)
  go_wp2_with (go_at_call 18; refine C4.out.mono ?_; rintro e v6 ⟨rfl, hb6⟩)
  go_ret
  exact ⟨rfl, B1.out.trans (belowLe B1.out.size (K5.out.trans (belowLe K5.out.size hb6)))⟩
set_option maxRecDepth 100000 in
set_option maxHeartbeats 4000000 in
theorem short_long (o : Ob) (f l c p i : Sl) (hz : ObSz o) (cut : Int) (hl : longO o = true) (w : World) (hr : RowsR w o f l c p i) :
    Calls Try.prog 4 #[.agg (oc o f l c p i), .int .i64 cut] w fun e w' => e = .returned (.bool true) ∧ Below w.heap.size w w' := by
  obtain ⟨w1, hw1, b1, p1⟩ := box_one w (oc o f l c p i) 32
  obtain ⟨x, hx⟩ : ∃ x, x = w.heap.size := ⟨_, rfl⟩
  rw [← hx] at p1
  have R1 := Lib.hid (hr.below b1)
  have C1 := Lib.hid (fun V (h : Below w1.heap.size w1 V) => long_any o f l c p i hz V (R1.out.below h))
  rw [hl] at C1
  have P1 := Lib.hid p1
  have HW := Lib.hid hw1
  have B1 := Lib.hid b1
  clear b1 p1 hw1 hr hz hl
  go_enter Try.func4, Try.ntmps4
  go_upto_region 1 with (fail)
  rw [← HW.out, ← hx]
  clear hx
  go_wp2_with (fail)
  refine (awake_any _).mono ?_
  rintro e v1 ⟨rfl, hb1⟩
  have K1 := Lib.hid hb1
  have P2 := Lib.hid ((hb1.block x (Array.getElem?_eq_some_iff.1 P1.out).1).trans P1.out)
  clear hb1
  go_wp2_with (refine wpList_load_row rfl 32 (.tmp 2) rfl x rfl 32 _ (0, 0) _ P2.out Try.underlying32 rfl size32 ?_)
  refine (C1.out _ K1.out).mono ?_
  rintro e v2 ⟨rfl, hb2⟩
  have K2 := Lib.hid (K1.out.trans (belowLe K1.out.size hb2))
  clear hb2
  go_wp2
  go_ret
  exact ⟨rfl, B1.out.trans (belowLe B1.out.size K2.out)⟩
set_option maxRecDepth 100000 in
set_option maxHeartbeats 4000000 in
theorem short_bad (o : Ob) (f l c p i : Sl) (hz : ObSz o) (cut : Int) (hl : longO o = false) (hsh : CodP.shape o = false) (w : World) (hr : RowsR w o f l c p i) :
    Calls Try.prog 4 #[.agg (oc o f l c p i), .int .i64 cut] w fun e w' => e = .returned (.bool true) ∧ Below w.heap.size w w' := by
  obtain ⟨w1, hw1, b1, p1⟩ := box_one w (oc o f l c p i) 32
  obtain ⟨x, hx⟩ : ∃ x, x = w.heap.size := ⟨_, rfl⟩
  rw [← hx] at p1
  have hle := long_le o hl
  have R1 := Lib.hid (hr.below b1)
  have C1 := Lib.hid (fun V (h : Below w1.heap.size w1 V) => long_any o f l c p i hz V (R1.out.below h))
  have C2 := Lib.hid (fun V (h : Below w1.heap.size w1 V) => pack_any o f l c p i ⟨by omega, by omega, by omega, by omega, by omega⟩ V (R1.out.below h))
  have hp : packS o = (⟨#[]⟩, 13) := by unfold packS; rw [hsh]; rfl
  rw [hp] at C2
  rw [hl] at C1
  have P1 := Lib.hid p1
  have HW := Lib.hid hw1
  have B1 := Lib.hid b1
  clear b1 p1 hw1 hr hz hl hle hsh hp
  go_enter Try.func4, Try.ntmps4
  go_upto_region 1 with (fail)
  rw [← HW.out, ← hx]
  clear hx
  go_wp2_with (fail)
  refine (awake_any _).mono ?_
  rintro e v1 ⟨rfl, hb1⟩
  have K1 := Lib.hid hb1
  have P2 := Lib.hid ((hb1.block x (Array.getElem?_eq_some_iff.1 P1.out).1).trans P1.out)
  clear hb1
  go_wp2_with (refine wpList_load_row rfl 32 (.tmp 2) rfl x rfl 32 _ (0, 0) _ P2.out Try.underlying32 rfl size32 ?_)
  refine (C1.out _ K1.out).mono ?_
  rintro e v2 ⟨rfl, hb2⟩
  have K2 := Lib.hid (K1.out.trans (belowLe K1.out.size hb2))
  have P3 := Lib.hid ((hb2.block x (Array.getElem?_eq_some_iff.1 P2.out).1).trans P2.out)
  clear hb2
  go_wp2_with (refine wpList_load_row rfl 32 (.tmp 2) rfl x rfl 32 _ (0, 0) _ P3.out Try.underlying32 rfl size32 ?_)
  refine (C2.out _ K2.out).mono ?_
  rintro e v3 ⟨rfl, hb3⟩
  have K3 := Lib.hid (K2.out.trans (belowLe K2.out.size hb3))
  clear hb3
  go_wp2
  go_ret
  exact ⟨rfl, B1.out.trans (belowLe B1.out.size K3.out)⟩
theorem short_row (o : Ob) (f l c p i : Sl) (W : World) (hr : RowsR W o f l c p i) (hz : ObSz o) (cut : Int) (w : World) (hw : w = W) :
    Calls Try.prog 4 #[.agg (oc o f l c p i), .int .i64 cut] w fun e w' => e = .returned (.bool true) ∧ Below w.heap.size w w' := by
  subst hw
  cases hl : longO o
  · cases hsh : CodP.shape o
    · exact short_bad o f l c p i hz cut hl hsh w hr
    · exact short_ok o f l c p i hz cut hl hsh w hr
  · exact short_long o f l c p i hz cut hl w hr
end Go.Proofs.Ytolndeolehkjoaa
