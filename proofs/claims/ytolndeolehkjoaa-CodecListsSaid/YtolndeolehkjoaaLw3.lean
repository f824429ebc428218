/- The walk of CodecReads. -/
import Derived.Test.YtolndeolehkjoaaLw2
import Derived.Test.YtolndeolehkjoaaUp1
import Derived.Test.YtolndeolehkjoaaRp1
namespace Go.Proofs.Ytolndeolehkjoaa
set_option linter.unusedVariables false
set_option linter.unusedSimpArgs false
open Go.RowKit CodP
theorem shape_len (o : Ob) (h : CodP.shape o = true) : o.fins.length ≤ 1000000 ∧ o.labels.length ≤ 1000000 ∧ o.cidrs.length ≤ 1000000 ∧ o.fams.length ≤ 1000000 ∧ o.ips.length ≤ 1000000 := by
  have hf := fits_of o h
  exact ⟨by have := hf.fins.1; omega, by have := hf.labels.1; omega, by have := hf.cidrs.1; omega, by have := hf.fams.1; omega, by have := hf.ips.1; omega⟩
set_option maxRecDepth 100000 in
set_option maxHeartbeats 8000000 in
theorem reads_long (s : ByteArray) (hs : (5000 : Int) < s.size) (w : World) : Calls Try.prog 6 #[.string s] w fun e w' => e = .returned (.bool true) ∧ Below w.heap.size w w' := by
  go_enter Try.func6, Try.ntmps6
  go_wp2_with (go_at_call 11; refine (awake_any _).mono ?_; rintro e w1 ⟨rfl, hb⟩)
  go_ret
  exact ⟨rfl, hb⟩
set_option maxRecDepth 100000 in
set_option maxHeartbeats 8000000 in
theorem reads_bad (s : ByteArray) (hs : (s.size : Int) ≤ 5000) (e0 : Int) (hf : firstS s = (zeroOb, 0, e0)) (he : e0 = 3 ∨ e0 = 4) (w : World) : Calls Try.prog 6 #[.string s] w fun e w' => e = .returned (.bool true) ∧ Below w.heap.size w w' := by
  have hu : unpackS s = (zeroOb, 4) := by unfold unpackS; rw [hf]; exact if_pos (.inl (by rcases he with rfl | rfl <;> decide))
  have C1 := Lib.hid (fun V => first_any s (by omega) V)
  have C2 := Lib.hid (fun V => unpack_any s (by omega) V)
  rw [hf] at C1
  rw [hu] at C2
  clear hf hu
  have q1 : (e0 != 0) = true := by rcases he with rfl | rfl <;> rfl
  have q2 : (e0 == 3) = true ∨ (e0 == 3) = false ∧ (e0 == 4) = true := by rcases he with rfl | rfl <;> simp
  clear he
  rcases q2 with q2 | ⟨q2, q3⟩
  all_goals
    go_enter Try.func6, Try.ntmps6
    go_wp2_with (fail)
    refine (awake_any _).mono ?_
    rintro e v1 ⟨rfl, hb⟩
    have K1 := Lib.hid (show Below w.heap.size w v1 from hb)
    clear hb
    go_wp2_with (fail)
    refine (C1.out _).mono ?_
    rintro e v2 ⟨f1, l1, c1, p1, i1, rfl, ow1, hb⟩
    have K2 := Lib.hid (K1.out.trans (belowLe K1.out.size hb))
    clear hb
    have RA2 := Lib.hid (RowsR.of_owns ow1)
    clear ow1
    have b5 := bel_allocRow v2 #[.int .i64 0, .string ⟨#[]⟩, .int .i64 0, .int .i64 0, .bool false, .slice none 0 0, .slice none 0 0, .slice none 0 0, .string ⟨#[]⟩, .int .i64 0, .int .i64 0, .slice none 0 0, .slice none 0 0, .string ⟨#[]⟩, .string ⟨#[]⟩, .int .i64 0, .string ⟨#[]⟩, .string ⟨#[]⟩, .string ⟨#[]⟩] (oc zeroOb f1 l1 c1 p1 i1) 32
    obtain ⟨v3, hv5⟩ : ∃ z, z = (v2.alloc (.cells #[.int .i64 0, .string ⟨#[]⟩, .int .i64 0, .int .i64 0, .bool false, .slice none 0 0, .slice none 0 0, .slice none 0 0, .string ⟨#[]⟩, .int .i64 0, .int .i64 0, .slice none 0 0, .slice none 0 0, .string ⟨#[]⟩, .string ⟨#[]⟩, .int .i64 0, .string ⟨#[]⟩, .string ⟨#[]⟩, .string ⟨#[]⟩] 32)).setRow v2.heap.size (oc zeroOb f1 l1 c1 p1 i1) := ⟨_, rfl⟩
    rw [← hv5] at b5
    obtain ⟨tPA, htb⟩ : ∃ z, z = v2.heap.size := ⟨_, rfl⟩
    have p5 : v3.heap[tPA]? = some (.cells (oc zeroOb f1 l1 c1 p1 i1) 32 (0, 0)) := by rw [hv5, htb]; exact setRow_heap _ _ _ _ _ _ (G.heap_new _ _)
    have PA3 := Lib.hid p5
    clear p5
    have K3 := Lib.hid (K2.out.trans (belowLe K2.out.size b5))
    have RA3 := Lib.hid (RA2.out.below b5)
    clear b5
    dsimp only
    rename_i hK
    refine hK _ _ ?_
    iterate 15 (first | go_values | go_skip | go_guarded | go_step | go_upon)
    refine wpList_store_row rfl 32 (.tmp 3) (.tmp 18) rfl _ (oc zeroOb f1 l1 c1 p1 i1) rfl rfl 32 _ (G.heap_new _ _) size32 rfl (oc_one zeroOb f1 l1 c1 p1 i1) ?_
    rw [← hv5, ← htb]
    clear hK hv5 htb
    go_wp2_with (fail)
    refine (C2.out _).mono ?_
    rintro e v4 ⟨f2, l2, c2, p2, i2, rfl, ow2, hb⟩
    have K4 := Lib.hid (K3.out.trans (belowLe K3.out.size hb))
    have PA4 := Lib.hid ((hb.block tPA (Array.getElem?_eq_some_iff.1 PA3.out).1).trans PA3.out)
    have RA4 := Lib.hid (RA3.out.below hb)
    clear hb
    have RB4 := Lib.hid (RowsR.of_owns ow2)
    clear ow2
    have b5 := bel_allocRow v4 #[.int .i64 0, .string ⟨#[]⟩, .int .i64 0, .int .i64 0, .bool false, .slice none 0 0, .slice none 0 0, .slice none 0 0, .string ⟨#[]⟩, .int .i64 0, .int .i64 0, .slice none 0 0, .slice none 0 0, .string ⟨#[]⟩, .string ⟨#[]⟩, .int .i64 0, .string ⟨#[]⟩, .string ⟨#[]⟩, .string ⟨#[]⟩] (oc zeroOb f2 l2 c2 p2 i2) 32
    obtain ⟨v5, hv5⟩ : ∃ z, z = (v4.alloc (.cells #[.int .i64 0, .string ⟨#[]⟩, .int .i64 0, .int .i64 0, .bool false, .slice none 0 0, .slice none 0 0, .slice none 0 0, .string ⟨#[]⟩, .int .i64 0, .int .i64 0, .slice none 0 0, .slice none 0 0, .string ⟨#[]⟩, .string ⟨#[]⟩, .int .i64 0, .string ⟨#[]⟩, .string ⟨#[]⟩, .string ⟨#[]⟩] 32)).setRow v4.heap.size (oc zeroOb f2 l2 c2 p2 i2) := ⟨_, rfl⟩
    rw [← hv5] at b5
    obtain ⟨tPB, htb⟩ : ∃ z, z = v4.heap.size := ⟨_, rfl⟩
    have p5 : v5.heap[tPB]? = some (.cells (oc zeroOb f2 l2 c2 p2 i2) 32 (0, 0)) := by rw [hv5, htb]; exact setRow_heap _ _ _ _ _ _ (G.heap_new _ _)
    have PB5 := Lib.hid p5
    clear p5
    have K5 := Lib.hid (K4.out.trans (belowLe K4.out.size b5))
    have PA5 := Lib.hid ((b5.block tPA (Array.getElem?_eq_some_iff.1 PA4.out).1).trans PA4.out)
    have RA5 := Lib.hid (RA4.out.below b5)
    have RB5 := Lib.hid (RB4.out.below b5)
    clear b5
    dsimp only
    rename_i hK
    refine hK _ _ ?_
    iterate 12 (first | go_values | go_skip | go_guarded | go_step | go_upon)
    refine wpList_store_row rfl 32 (.tmp 6) (.tmp 24) rfl _ (oc zeroOb f2 l2 c2 p2 i2) rfl rfl 32 _ (G.heap_new _ _) size32 rfl (oc_one zeroOb f2 l2 c2 p2 i2) ?_
    rw [← hv5, ← htb]
    clear hK hv5 htb
    go_upto_region 8 with (fail)
    repeat (first | ((refine wp_load_row 32 (.tmp 3) rfl tPA rfl 32 _ (0, 0) _ PA5.out Try.underlying32 rfl size32 ?_); (try simp only [Act.put, List.setIfInBounds_toArray, List.set_cons_zero, List.set_cons_succ])) | go_values | go_skip | go_guarded | go_step)
    go_wp2_with (fail)
    have C4 := Lib.hid (same14_any zeroOb zeroOb f1 l1 c1 p1 i1 Sl0 Sl0 Sl0 Sl0 Sl0 zero_len v5 RA5.out (RowsR.zero _))
    rw [sameB_self] at C4
    refine (C4.out).mono ?_
    rintro e v6 ⟨rfl, hb⟩
    have K6 := Lib.hid (K5.out.trans (belowLe K5.out.size hb))
    have PA6 := Lib.hid ((hb.block tPA (Array.getElem?_eq_some_iff.1 PA5.out).1).trans PA5.out)
    have PB6 := Lib.hid ((hb.block tPB (Array.getElem?_eq_some_iff.1 PB5.out).1).trans PB5.out)
    have RA6 := Lib.hid (RA5.out.below hb)
    have RB6 := Lib.hid (RB5.out.below hb)
    clear hb
    dsimp only
    rename_i hK
    refine hK _ _ ?_
    clear hK
    repeat (first | ((refine wp_load_row 32 (.tmp 6) rfl tPB rfl 32 _ (0, 0) _ PB6.out Try.underlying32 rfl size32 ?_); (try simp only [Act.put, List.setIfInBounds_toArray, List.set_cons_zero, List.set_cons_succ])) | go_values | go_skip | go_guarded | go_step)
    go_wp2_with (fail)
    have C5 := Lib.hid (same14_any zeroOb zeroOb f2 l2 c2 p2 i2 Sl0 Sl0 Sl0 Sl0 Sl0 zero_len v6 RB6.out (RowsR.zero _))
    rw [sameB_self] at C5
    refine (C5.out).mono ?_
    rintro e v7 ⟨rfl, hb⟩
    have K7 := Lib.hid (K6.out.trans (belowLe K6.out.size hb))
    have PA7 := Lib.hid ((hb.block tPA (Array.getElem?_eq_some_iff.1 PA6.out).1).trans PA6.out)
    have PB7 := Lib.hid ((hb.block tPB (Array.getElem?_eq_some_iff.1 PB6.out).1).trans PB6.out)
    have RA7 := Lib.hid (RA6.out.below hb)
    have RB7 := Lib.hid (RB6.out.below hb)
    clear hb
    go_wp2
    go_ret
    exact ⟨rfl, K7.out⟩
set_option maxRecDepth 100000 in
set_option maxHeartbeats 8000000 in
theorem reads_whole (s : ByteArray) (hs : (s.size : Int) ≤ 5000) (o : Ob) (n : Nat) (hf : firstS s = (o, n, 0)) (hsh : CodP.shape o = true) (hn : n ≤ s.size) (hx : s.extract 0 n = bytesS o) (hw : n = s.size) (w : World) : Calls Try.prog 6 #[.string s] w fun e w' => e = .returned (.bool true) ∧ Below w.heap.size w w' := by
  have hu : unpackS s = (o, 0) := by unfold unpackS; rw [hf]; exact if_neg (by simp [hw])
  have hp : packS o = (bytesS o, 0) := by unfold packS; rw [hsh]; rfl
  have hl := shape_len o hsh
  have C1 := Lib.hid (fun V => first_any s (by omega) V)
  have C2 := Lib.hid (fun V => unpack_any s (by omega) V)
  rw [hf] at C1
  rw [hu] at C2
  have HL := Lib.hid hl
  have HP := Lib.hid hp
  have HSH := Lib.hid hsh
  obtain ⟨t, ht⟩ : ∃ t, t = bytesS o := ⟨_, rfl⟩
  rw [← ht] at hx HP
  have q1 : decide (s.size < n) = false := decide_eq_false (by omega)
  have q2 : ((n : Int) == s.size) = true := by simp [hw]
  have hn2 : (n : Int) ≤ s.size := by omega
  have q3 : (t.toList == t.toList) = true := by simp
  clear hf hu hp hsh hw hl ht
  go_enter Try.func6, Try.ntmps6
  go_wp2_with (fail)
  refine (awake_any _).mono ?_
  rintro e v1 ⟨rfl, hb⟩
  have K1 := Lib.hid (show Below w.heap.size w v1 from hb)
  clear hb
  go_wp2_with (fail)
  refine (C1.out _).mono ?_
  rintro e v2 ⟨f1, l1, c1, p1, i1, rfl, ow1, hb⟩
  have K2 := Lib.hid (K1.out.trans (belowLe K1.out.size hb))
  clear hb
  have RA2 := Lib.hid (RowsR.of_owns ow1)
  clear ow1
  have b5 := bel_allocRow v2 #[.int .i64 0, .string ⟨#[]⟩, .int .i64 0, .int .i64 0, .bool false, .slice none 0 0, .slice none 0 0, .slice none 0 0, .string ⟨#[]⟩, .int .i64 0, .int .i64 0, .slice none 0 0, .slice none 0 0, .string ⟨#[]⟩, .string ⟨#[]⟩, .int .i64 0, .string ⟨#[]⟩, .string ⟨#[]⟩, .string ⟨#[]⟩] (oc o f1 l1 c1 p1 i1) 32
  obtain ⟨v3, hv5⟩ : ∃ z, z = (v2.alloc (.cells #[.int .i64 0, .string ⟨#[]⟩, .int .i64 0, .int .i64 0, .bool false, .slice none 0 0, .slice none 0 0, .slice none 0 0, .string ⟨#[]⟩, .int .i64 0, .int .i64 0, .slice none 0 0, .slice none 0 0, .string ⟨#[]⟩, .string ⟨#[]⟩, .int .i64 0, .string ⟨#[]⟩, .string ⟨#[]⟩, .string ⟨#[]⟩] 32)).setRow v2.heap.size (oc o f1 l1 c1 p1 i1) := ⟨_, rfl⟩
  rw [← hv5] at b5
  obtain ⟨tPA, htb⟩ : ∃ z, z = v2.heap.size := ⟨_, rfl⟩
  have p5 : v3.heap[tPA]? = some (.cells (oc o f1 l1 c1 p1 i1) 32 (0, 0)) := by rw [hv5, htb]; exact setRow_heap _ _ _ _ _ _ (G.heap_new _ _)
  have PA3 := Lib.hid p5
  clear p5
  have K3 := Lib.hid (K2.out.trans (belowLe K2.out.size b5))
  have RA3 := Lib.hid (RA2.out.below b5)
  clear b5
  dsimp only
  rename_i hK
  refine hK _ _ ?_
  iterate 15 (first | go_values | go_skip | go_guarded | go_step | go_upon)
  refine wpList_store_row rfl 32 (.tmp 3) (.tmp 18) rfl _ (oc o f1 l1 c1 p1 i1) rfl rfl 32 _ (G.heap_new _ _) size32 rfl (oc_one o f1 l1 c1 p1 i1) ?_
  rw [← hv5, ← htb]
  clear hK hv5 htb
  go_wp2_with (fail)
  refine (C2.out _).mono ?_
  rintro e v4 ⟨f2, l2, c2, p2, i2, rfl, ow2, hb⟩
  have K4 := Lib.hid (K3.out.trans (belowLe K3.out.size hb))
  have PA4 := Lib.hid ((hb.block tPA (Array.getElem?_eq_some_iff.1 PA3.out).1).trans PA3.out)
  have RA4 := Lib.hid (RA3.out.below hb)
  clear hb
  have RB4 := Lib.hid (RowsR.of_owns ow2)
  clear ow2
  have b5 := bel_allocRow v4 #[.int .i64 0, .string ⟨#[]⟩, .int .i64 0, .int .i64 0, .bool false, .slice none 0 0, .slice none 0 0, .slice none 0 0, .string ⟨#[]⟩, .int .i64 0, .int .i64 0, .slice none 0 0, .slice none 0 0, .string ⟨#[]⟩, .string ⟨#[]⟩, .int .i64 0, .string ⟨#[]⟩, .string ⟨#[]⟩, .string ⟨#[]⟩] (oc o f2 l2 c2 p2 i2) 32
  obtain ⟨v5, hv5⟩ : ∃ z, z = (v4.alloc (.cells #[.int .i64 0, .string ⟨#[]⟩, .int .i64 0, .int .i64 0, .bool false, .slice none 0 0, .slice none 0 0, .slice none 0 0, .string ⟨#[]⟩, .int .i64 0, .int .i64 0, .slice none 0 0, .slice none 0 0, .string ⟨#[]⟩, .string ⟨#[]⟩, .int .i64 0, .string ⟨#[]⟩, .string ⟨#[]⟩, .string ⟨#[]⟩] 32)).setRow v4.heap.size (oc o f2 l2 c2 p2 i2) := ⟨_, rfl⟩
  rw [← hv5] at b5
  obtain ⟨tPB, htb⟩ : ∃ z, z = v4.heap.size := ⟨_, rfl⟩
  have p5 : v5.heap[tPB]? = some (.cells (oc o f2 l2 c2 p2 i2) 32 (0, 0)) := by rw [hv5, htb]; exact setRow_heap _ _ _ _ _ _ (G.heap_new _ _)
  have PB5 := Lib.hid p5
  clear p5
  have K5 := Lib.hid (K4.out.trans (belowLe K4.out.size b5))
  have PA5 := Lib.hid ((b5.block tPA (Array.getElem?_eq_some_iff.1 PA4.out).1).trans PA4.out)
  have RA5 := Lib.hid (RA4.out.below b5)
  have RB5 := Lib.hid (RB4.out.below b5)
  clear b5
  dsimp only
  rename_i hK
  refine hK _ _ ?_
  iterate 12 (first | go_values | go_skip | go_guarded | go_step | go_upon)
  refine wpList_store_row rfl 32 (.tmp 6) (.tmp 24) rfl _ (oc o f2 l2 c2 p2 i2) rfl rfl 32 _ (G.heap_new _ _) size32 rfl (oc_one o f2 l2 c2 p2 i2) ?_
  rw [← hv5, ← htb]
  clear hK hv5 htb
  go_wp2_with (first | (refine wpList_load_row rfl 32 (.tmp 3) rfl tPA rfl 32 _ (0, 0) _ PA5.out Try.underlying32 rfl size32 ?_))
  have C3 := Lib.hid (rpack_any o f1 l1 c1 p1 i1 HL.out v5 RA5.out)
  rw [HP.out] at C3
  refine (C3.out).mono ?_
  rintro e v6 ⟨rfl, hb⟩
  have K6 := Lib.hid (K5.out.trans (belowLe K5.out.size hb))
  have PA6 := Lib.hid ((hb.block tPA (Array.getElem?_eq_some_iff.1 PA5.out).1).trans PA5.out)
  have PB6 := Lib.hid ((hb.block tPB (Array.getElem?_eq_some_iff.1 PB5.out).1).trans PB5.out)
  have RA6 := Lib.hid (RA5.out.below hb)
  have RB6 := Lib.hid (RB5.out.below hb)
  clear hb
  go_upto_region 10 with (fail)
  repeat (first | ((refine wp_load_row 32 (.tmp 3) rfl tPA rfl 32 _ (0, 0) _ PA6.out Try.underlying32 rfl size32 ?_); (try simp only [Act.put, List.setIfInBounds_toArray, List.set_cons_zero, List.set_cons_succ])) | go_values | go_skip | go_guarded | go_step)
  go_wp2_with (fail)
  have C4 := Lib.hid (shape_any o f1 l1 c1 p1 i1 HL.out v6 RA6.out)
  rw [HSH.out] at C4
  refine (C4.out).mono ?_
  rintro e v7 ⟨rfl, hb⟩
  have K7 := Lib.hid (K6.out.trans (belowLe K6.out.size hb))
  have PA7 := Lib.hid ((hb.block tPA (Array.getElem?_eq_some_iff.1 PA6.out).1).trans PA6.out)
  have PB7 := Lib.hid ((hb.block tPB (Array.getElem?_eq_some_iff.1 PB6.out).1).trans PB6.out)
  have RA7 := Lib.hid (RA6.out.below hb)
  have RB7 := Lib.hid (RB6.out.below hb)
  clear hb
  dsimp only
  rename_i hK
  refine hK _ _ ?_
  clear hK
  go_upto_region 13 with (fail)
  repeat (first | ((refine wp_load_row 32 (.tmp 6) rfl tPB rfl 32 _ (0, 0) _ PB7.out Try.underlying32 rfl size32 ?_); (try simp only [Act.put, List.setIfInBounds_toArray, List.set_cons_zero, List.set_cons_succ])) | ((refine wp_load_row 32 (.tmp 3) rfl tPA rfl 32 _ (0, 0) _ PA7.out Try.underlying32 rfl size32 ?_); (try simp only [Act.put, List.setIfInBounds_toArray, List.set_cons_zero, List.set_cons_succ])) | go_values | go_skip | go_guarded | go_step)
  go_wp2_with (fail)
  have C5 := Lib.hid (same14_any o o f2 l2 c2 p2 i2 f1 l1 c1 p1 i1 HL.out v7 RB7.out RA7.out)
  rw [sameB_self] at C5
  refine (C5.out).mono ?_
  rintro e v8 ⟨rfl, hb⟩
  have K8 := Lib.hid (K7.out.trans (belowLe K7.out.size hb))
  have PA8 := Lib.hid ((hb.block tPA (Array.getElem?_eq_some_iff.1 PA7.out).1).trans PA7.out)
  have PB8 := Lib.hid ((hb.block tPB (Array.getElem?_eq_some_iff.1 PB7.out).1).trans PB7.out)
  have RA8 := Lib.hid (RA7.out.below hb)
  have RB8 := Lib.hid (RB7.out.below hb)
  clear hb
  go_wp2
  go_ret
  exact ⟨rfl, K8.out⟩
set_option maxRecDepth 100000 in
set_option maxHeartbeats 8000000 in
theorem reads_part (s : ByteArray) (hs : (s.size : Int) ≤ 5000) (o : Ob) (n : Nat) (hf : firstS s = (o, n, 0)) (hsh : CodP.shape o = true) (hn : n ≤ s.size) (hx : s.extract 0 n = bytesS o) (hw : n < s.size) (w : World) : Calls Try.prog 6 #[.string s] w fun e w' => e = .returned (.bool true) ∧ Below w.heap.size w w' := by
  have hu : unpackS s = (zeroOb, 4) := by unfold unpackS; rw [hf]; exact if_pos (.inr (by simp; omega))
  have hp : packS o = (bytesS o, 0) := by unfold packS; rw [hsh]; rfl
  have hl := shape_len o hsh
  have C1 := Lib.hid (fun V => first_any s (by omega) V)
  have C2 := Lib.hid (fun V => unpack_any s (by omega) V)
  rw [hf] at C1
  rw [hu] at C2
  have HL := Lib.hid hl
  have HP := Lib.hid hp
  have HSH := Lib.hid hsh
  obtain ⟨t, ht⟩ : ∃ t, t = bytesS o := ⟨_, rfl⟩
  rw [← ht] at hx HP
  have q1 : decide (s.size < n) = false := decide_eq_false (by omega)
  have q2 : ((n : Int) == s.size) = false := beq_eq_false_iff_ne.2 (by omega)
  have hn2 : (n : Int) ≤ s.size := by omega
  have q3 : (t.toList == t.toList) = true := by simp
  clear hf hu hp hsh hw hl ht
  go_enter Try.func6, Try.ntmps6
  go_wp2_with (fail)
  refine (awake_any _).mono ?_
  rintro e v1 ⟨rfl, hb⟩
  have K1 := Lib.hid (show Below w.heap.size w v1 from hb)
  clear hb
  go_wp2_with (fail)
  refine (C1.out _).mono ?_
  rintro e v2 ⟨f1, l1, c1, p1, i1, rfl, ow1, hb⟩
  have K2 := Lib.hid (K1.out.trans (belowLe K1.out.size hb))
  clear hb
  have RA2 := Lib.hid (RowsR.of_owns ow1)
  clear ow1
  have b5 := bel_allocRow v2 #[.int .i64 0, .string ⟨#[]⟩, .int .i64 0, .int .i64 0, .bool false, .slice none 0 0, .slice none 0 0, .slice none 0 0, .string ⟨#[]⟩, .int .i64 0, .int .i64 0, .slice none 0 0, .slice none 0 0, .string ⟨#[]⟩, .string ⟨#[]⟩, .int .i64 0, .string ⟨#[]⟩, .string ⟨#[]⟩, .string ⟨#[]⟩] (oc o f1 l1 c1 p1 i1) 32
  obtain ⟨v3, hv5⟩ : ∃ z, z = (v2.alloc (.cells #[.int .i64 0, .string ⟨#[]⟩, .int .i64 0, .int .i64 0, .bool false, .slice none 0 0, .slice none 0 0, .slice none 0 0, .string ⟨#[]⟩, .int .i64 0, .int .i64 0, .slice none 0 0, .slice none 0 0, .string ⟨#[]⟩, .string ⟨#[]⟩, .int .i64 0, .string ⟨#[]⟩, .string ⟨#[]⟩, .string ⟨#[]⟩] 32)).setRow v2.heap.size (oc o f1 l1 c1 p1 i1) := ⟨_, rfl⟩
  rw [← hv5] at b5
  obtain ⟨tPA, htb⟩ : ∃ z, z = v2.heap.size := ⟨_, rfl⟩
  have p5 : v3.heap[tPA]? = some (.cells (oc o f1 l1 c1 p1 i1) 32 (0, 0)) := by rw [hv5, htb]; exact setRow_heap _ _ _ _ _ _ (G.heap_new _ _)
  have PA3 := Lib.hid p5
  clear p5
  have K3 := Lib.hid (K2.out.trans (belowLe K2.out.size b5))
  have RA3 := Lib.hid (RA2.out.below b5)
  clear b5
  dsimp only
  rename_i hK
  refine hK _ _ ?_
  iterate 15 (first | go_values | go_skip | go_guarded | go_step | go_upon)
  refine wpList_store_row rfl 32 (.tmp 3) (.tmp 18) rfl _ (oc o f1 l1 c1 p1 i1) rfl rfl 32 _ (G.heap_new _ _) size32 rfl (oc_one o f1 l1 c1 p1 i1) ?_
  rw [← hv5, ← htb]
  clear hK hv5 htb
  go_wp2_with (fail)
  refine (C2.out _).mono ?_
  rintro e v4 ⟨f2, l2, c2, p2, i2, rfl, ow2, hb⟩
  have K4 := Lib.hid (K3.out.trans (belowLe K3.out.size hb))
  have PA4 := Lib.hid ((hb.block tPA (Array.getElem?_eq_some_iff.1 PA3.out).1).trans PA3.out)
  have RA4 := Lib.hid (RA3.out.below hb)
  clear hb
  have RB4 := Lib.hid (RowsR.of_owns ow2)
  clear ow2
  have b5 := bel_allocRow v4 #[.int .i64 0, .string ⟨#[]⟩, .int .i64 0, .int .i64 0, .bool false, .slice none 0 0, .slice none 0 0, .slice none 0 0, .string ⟨#[]⟩, .int .i64 0, .int .i64 0, .slice none 0 0, .slice none 0 0, .string ⟨#[]⟩, .string ⟨#[]⟩, .int .i64 0, .string ⟨#[]⟩, .string ⟨#[]⟩, .string ⟨#[]⟩] (oc zeroOb f2 l2 c2 p2 i2) 32
  obtain ⟨v5, hv5⟩ : ∃ z, z = (v4.alloc (.cells #[.int .i64 0, .string ⟨#[]⟩, .int .i64 0, .int .i64 0, .bool false, .slice none 0 0, .slice none 0 0, .slice none 0 0, .string ⟨#[]⟩, .int .i64 0, .int .i64 0, .slice none 0 0, .slice none 0 0, .string ⟨#[]⟩, .string ⟨#[]⟩, .int .i64 0, .string ⟨#[]⟩, .string ⟨#[]⟩, .string ⟨#[]⟩] 32)).setRow v4.heap.size (oc zeroOb f2 l2 c2 p2 i2) := ⟨_, rfl⟩
  rw [← hv5] at b5
  obtain ⟨tPB, htb⟩ : ∃ z, z = v4.heap.size := ⟨_, rfl⟩
  have p5 : v5.heap[tPB]? = some (.cells (oc zeroOb f2 l2 c2 p2 i2) 32 (0, 0)) := by rw [hv5, htb]; exact setRow_heap _ _ _ _ _ _ (G.heap_new _ _)
  have PB5 := Lib.hid p5
  clear p5
  have K5 := Lib.hid (K4.out.trans (belowLe K4.out.size b5))
  have PA5 := Lib.hid ((b5.block tPA (Array.getElem?_eq_some_iff.1 PA4.out).1).trans PA4.out)
  have RA5 := Lib.hid (RA4.out.below b5)
  have RB5 := Lib.hid (RB4.out.below b5)
  clear b5
  dsimp only
  rename_i hK
  refine hK _ _ ?_
  iterate 12 (first | go_values | go_skip | go_guarded | go_step | go_upon)
  refine wpList_store_row rfl 32 (.tmp 6) (.tmp 24) rfl _ (oc zeroOb f2 l2 c2 p2 i2) rfl rfl 32 _ (G.heap_new _ _) size32 rfl (oc_one zeroOb f2 l2 c2 p2 i2) ?_
  rw [← hv5, ← htb]
  clear hK hv5 htb
  go_wp2_with (first | (refine wpList_load_row rfl 32 (.tmp 3) rfl tPA rfl 32 _ (0, 0) _ PA5.out Try.underlying32 rfl size32 ?_))
  have C3 := Lib.hid (rpack_any o f1 l1 c1 p1 i1 HL.out v5 RA5.out)
  rw [HP.out] at C3
  refine (C3.out).mono ?_
  rintro e v6 ⟨rfl, hb⟩
  have K6 := Lib.hid (K5.out.trans (belowLe K5.out.size hb))
  have PA6 := Lib.hid ((hb.block tPA (Array.getElem?_eq_some_iff.1 PA5.out).1).trans PA5.out)
  have PB6 := Lib.hid ((hb.block tPB (Array.getElem?_eq_some_iff.1 PB5.out).1).trans PB5.out)
  have RA6 := Lib.hid (RA5.out.below hb)
  have RB6 := Lib.hid (RB5.out.below hb)
  clear hb
  go_upto_region 10 with (fail)
  repeat (first | ((refine wp_load_row 32 (.tmp 3) rfl tPA rfl 32 _ (0, 0) _ PA6.out Try.underlying32 rfl size32 ?_); (try simp only [Act.put, List.setIfInBounds_toArray, List.set_cons_zero, List.set_cons_succ])) | go_values | go_skip | go_guarded | go_step)
  go_wp2_with (fail)
  have C4 := Lib.hid (shape_any o f1 l1 c1 p1 i1 HL.out v6 RA6.out)
  rw [HSH.out] at C4
  refine (C4.out).mono ?_
  rintro e v7 ⟨rfl, hb⟩
  have K7 := Lib.hid (K6.out.trans (belowLe K6.out.size hb))
  have PA7 := Lib.hid ((hb.block tPA (Array.getElem?_eq_some_iff.1 PA6.out).1).trans PA6.out)
  have PB7 := Lib.hid ((hb.block tPB (Array.getElem?_eq_some_iff.1 PB6.out).1).trans PB6.out)
  have RA7 := Lib.hid (RA6.out.below hb)
  have RB7 := Lib.hid (RB6.out.below hb)
  clear hb
  go_wp2
  go_ret
  exact ⟨rfl, K7.out⟩
theorem reads_row (s : ByteArray) (_ : s.size ≤ 140737488351232) (w : World) : Calls Try.prog 6 #[.string s] w fun e w' => e = .returned (.bool true) ∧ Below w.heap.size w w' := by
  by_cases hs : (5000 : Int) < s.size
  · exact reads_long s hs w
  by_cases he : (firstS s).2.2 = 0
  · obtain ⟨h1, h2, h3, h4⟩ := first_ok s he
    have hf : firstS s = ((firstS s).1, (firstS s).2.1, 0) := by rw [← he]
    by_cases hn : (firstS s).2.1 = s.size
    · exact reads_whole s (by omega) _ _ hf h1 h3 h4 hn w
    · exact reads_part s (by omega) _ _ hf h1 h3 h4 (by omega) w
  · obtain ⟨h1, h2, h3⟩ := first_bad s he
    have hf : firstS s = (zeroOb, 0, (firstS s).2.2) := by rw [← h1, ← h2]
    exact reads_bad s (by omega) _ hf h3 w
end Go.Proofs.Ytolndeolehkjoaa
