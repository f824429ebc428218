/- The reader of bytes: small, text. -/
import Derived.Test.YtolndeolehkjoaaRd1
namespace Go.Proofs.Ytolndeolehkjoaa
set_option linter.unusedVariables false
set_option linter.unusedSimpArgs false
open Go.RowKit CodP
theorem not_empty {x : ByteArray} (h : ¬ x.size = 0) : x.toList.isEmpty = false := by
  rw [ByteArray.toList_eq, List.isEmpty_eq_false_iff]
  intro e
  exact h (by rw [← BL_length, BL, e]; rfl)
theorem wr64 {b : Int} (h : -9223372036854775808 ≤ b ∧ b ≤ 9223372036854775807) : wrap64 b = b := by
  unfold wrap64; omega
theorem byte0_at (x : ByteArray) (h : 0 < x.size) : (((x[0]'h).toNat : Nat) : Int) = byte0 x := by
  unfold byte0
  have : (BL x).head? = some x[0] := by
    simp only [BL, List.head?_eq_getElem?, Array.getElem?_toList]
    exact Array.getElem?_eq_getElem h
  rw [List.headD_eq_head?_getD, this]; rfl
theorem byte0_lt (x : ByteArray) : 0 ≤ byte0 x ∧ byte0 x ≤ 255 := by
  unfold byte0
  have := ((BL x).headD 0).toNat_lt
  omega
theorem takeI_size (s : ByteArray) (n : Nat) (st : RSt) : (takeI s n st).1.size ≤ n := by
  unfold takeI
  split
  · exact Nat.zero_le _
  split
  · exact Nat.zero_le _
  · show (s.extract st.1 (st.1 + n)).size ≤ n
    rw [ByteArray.size_extract]; omega
set_option maxRecDepth 100000 in
set_option maxHeartbeats 1000000 in
theorem small_any (rb : Nat) (s : ByteArray) (st : RSt) (m : Int) (w : World) (h : RdAt w rb s st) :
    Calls Try.prog 72 #[.pointer (some ⟨rb, 0, none⟩), .int .i64 m] w fun x w' => x = .returned (.int .i64 (smallI s m st).1) ∧ RdAt w' rb s (smallI s m st).2 ∧ w.grownBy w' (some rb) := by
  have ht := take_any rb s st 1 (by decide) w h
  have hz := takeI_size s 1 st
  unfold smallI
  obtain ⟨⟨x, st1⟩, hx⟩ : ∃ y, y = takeI s 1 st := ⟨_, rfl⟩
  rw [← hx] at ht hz ⊢
  have HT := Lib.hid ht
  clear ht h hx
  by_cases h0 : x.size = 0
  · obtain rfl := size0.1 h0
    have hk : smallK m (⟨#[]⟩, st1) = (0, st1) := if_pos rfl
    have HK := Lib.hid hk
    clear hk h0 hz
    go_enter Try.func72, Try.ntmps72
    go_wp2_with (fail)
    refine HT.out.mono ?_
    rintro e w1 ⟨rfl, h1, g1⟩
    have H1 := Lib.hid h1
    have G1 := Lib.hid g1
    clear h1 g1
    go_wp2
    go_ret
    exact ⟨by rw [HK.out]; rfl, by rw [HK.out]; exact H1.out, G1.out⟩
  · have hlt : 0 < x.size := by omega
    have hne := not_empty h0
    have hix : ∀ W, (Instr.index 9 (.string x) (.int .i64 0)).run Try.prog W = .ok (.int .u8 (byte0 x)) W := fun W => by
      rw [run_index_string W 9 x .i64 0 Try.underlying9, dif_pos ⟨by omega, by omega⟩]
      have := byte0_at x hlt
      simp only [Int.toNat_zero, this]
    have hb := byte0_lt x
    obtain ⟨b, hbb⟩ : ∃ b, b = byte0 x := ⟨_, rfl⟩
    rw [← hbb] at hix hb
    have hwr : wrap64 b = b := wr64 (by omega)
    by_cases hm : b > m
    · have hk : smallK m (x, st1) = (0, failI 4 st1) := by simp only [smallK]; rw [if_neg h0, ← hbb, if_pos hm]
      have HK := Lib.hid hk
      have HB := Lib.hid hb
      have hm' : m < b := hm
      clear hk hbb h0 hz hlt hb hm
      go_enter Try.func72, Try.ntmps72
      go_wp2_with (fail)
      refine HT.out.mono ?_
      rintro e w1 ⟨rfl, h1, g1⟩
      have H1 := Lib.hid h1
      have G1 := Lib.hid g1
      clear h1 g1
      go_wp2_with (fail)
      refine (fail_any rb s st1 4 _ H1.out).mono ?_
      rintro e w2 ⟨rfl, h2, g2⟩
      have H2 := Lib.hid h2
      have G2 := Lib.hid g2
      clear h2 g2
      go_wp2
      go_ret
      exact ⟨by rw [HK.out]; rfl, by rw [HK.out]; exact H2.out, G1.out.trans G2.out⟩
    · have hk : smallK m (x, st1) = (b, st1) := by simp only [smallK]; rw [if_neg h0, ← hbb, if_neg hm]
      have HK := Lib.hid hk
      have HB := Lib.hid hb
      have hm' : b ≤ m := by omega
      clear hk hbb h0 hz hlt hb hm
      go_enter Try.func72, Try.ntmps72
      go_wp2_with (fail)
      refine HT.out.mono ?_
      rintro e w1 ⟨rfl, h1, g1⟩
      have H1 := Lib.hid h1
      have G1 := Lib.hid g1
      clear h1 g1
      go_wp2
      go_ret
      exact ⟨by rw [HK.out]; show Ending.returned (.int .i64 (wrap64 b)) = _; rw [hwr], by rw [HK.out]; exact H1.out, G1.out⟩
set_option maxRecDepth 100000 in
set_option maxHeartbeats 1000000 in
theorem text_any (rb : Nat) (s : ByteArray) (st : RSt) (w : World) (h : RdAt w rb s st) :
    Calls Try.prog 74 #[.pointer (some ⟨rb, 0, none⟩)] w fun x w' => x = .returned (.string (textI s st).1) ∧ RdAt w' rb s (textI s st).2 ∧ w.grownBy w' (some rb) := by
  have hs := small_any rb s st 200 w h
  unfold textI
  have hn : ∃ n : Nat, (n : Int) = (smallI s 200 st).1 ∧ n ≤ 255 := by
    unfold smallI smallK
    split
    · exact ⟨0, rfl, by omega⟩
    split
    · exact ⟨0, rfl, by omega⟩
    · have := byte0_lt (takeI s 1 st).1
      exact ⟨(byte0 (takeI s 1 st).1).toNat, by simp only; omega, by omega⟩
  obtain ⟨n, hn1, hn2⟩ := hn
  obtain ⟨⟨x, st1⟩, hx⟩ : ∃ y, y = smallI s 200 st := ⟨_, rfl⟩
  rw [← hx] at hs hn1 ⊢
  simp only at hn1
  subst hn1
  have HS := Lib.hid hs
  clear hs hx h
  go_enter Try.func74, Try.ntmps74
  go_wp2_with (fail)
  refine HS.out.mono ?_
  rintro e w1 ⟨rfl, h1, g1⟩
  have H1 := Lib.hid h1
  have G1 := Lib.hid g1
  clear h1 g1
  go_wp2_with (fail)
  refine (take_any rb s st1 n (by omega) w1 H1.out).mono ?_
  rintro e w2 ⟨rfl, h2, g2⟩
  have H2 := Lib.hid h2
  have G2 := Lib.hid g2
  clear h2 g2
  go_wp2
  go_ret
  exact ⟨rfl, H2.out, G1.out.trans G2.out⟩
end Go.Proofs.Ytolndeolehkjoaa
