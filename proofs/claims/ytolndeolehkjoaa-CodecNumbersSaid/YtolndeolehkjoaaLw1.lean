/- The walk of CodecNumbers. -/
import Derived.Test.YtolndeolehkjoaaNum2
namespace Go.Proofs.Ytolndeolehkjoaa
set_option linter.unusedVariables false
set_option linter.unusedSimpArgs false
open Go.RowKit CodP
theorem numOf_num8 (m : Nat) (hm : m ≤ 9223372036854775807) : numOf (num8 m) = if m > 4611686018427387904 then (0, 4) else ((m : Int), 0) := by
  simp only [numOf, num8_size, be8_num8 m (by omega)]
  simp
theorem numOf_ok (s : ByteArray) (h : (numOf s).2 = 0) : ∃ k : Nat, (numOf s).1 = k ∧ k ≤ 4611686018427387904 ∧ num8 k = s := by
  unfold numOf at h ⊢
  by_cases h8 : s.size = 8
  · rw [if_neg (by omega)] at h ⊢
    by_cases hb : be8 s > 4611686018427387904
    · rw [if_pos hb] at h; cases h
    · rw [if_neg hb]
      exact ⟨be8 s, rfl, by omega, num8_be8 s h8⟩
  · rw [if_pos h8] at h; cases h
theorem numOf_bad (s : ByteArray) (h : (numOf s).2 ≠ 0) : numOf s = (0, 4) := by
  unfold numOf at h ⊢
  split
  · rfl
  split
  · rfl
  · rename_i h1 h2; rw [if_neg h1, if_neg h2] at h; exact absurd rfl h
set_option maxRecDepth 100000 in
set_option maxHeartbeats 4000000 in
theorem numbers_long (n : Int) (s : ByteArray) (hs : (100 : Int) < s.size) (w : World) : Calls Try.prog 3 #[.int .i64 n, .string s] w fun e w' => e = .returned (.bool true) ∧ Below w.heap.size w w' := by
  go_enter Try.func3, Try.ntmps3
  go_wp2_with (go_at_call 11; refine (awake_any _).mono ?_; rintro e w1 ⟨rfl, hb⟩)
  go_ret
  exact ⟨rfl, hb⟩
set_option maxRecDepth 100000 in
set_option maxHeartbeats 4000000 in
theorem numbers_neg_bad (n : Int) (m : Nat) (hm : m ≤ 9223372036854775807) (h0 : n < 0) (h1 : m = 0) (s : ByteArray) (hs : (s.size : Int) ≤ 100) (h2 : (numOf s).2 ≠ 0) (w : World) : Calls Try.prog 3 #[.int .i64 n, .string s] w fun e w' => e = .returned (.bool true) ∧ Below w.heap.size w w' := by
  have hN := fun V => number0_any m hm n (by omega) V
  have hR := fun V => rnumber_any m hm V
  have hO := fun V => numof_any (num8 m) (by rw [num8_size]; omega) V
  rw [numOf_num8 m hm] at hO
  rw [if_neg (by omega)] at hO
  have hmz : (m : Int) = 0 := by omega
  rw [hmz] at hO hR
  have hd : decide (n < 0) = true := decide_eq_true h0
  clear h0 hmz
  have hS := fun V => numof_any s (by omega) V
  rw [numOf_bad s h2] at hS
  obtain ⟨t, ht⟩ : ∃ t, t = num8 m := ⟨_, rfl⟩
  rw [← ht] at hN hR hO
  have HN := Lib.hid hN
  have HR := Lib.hid hR
  have HO := Lib.hid hO
  have HS := Lib.hid hS
  clear hN hR hO hS ht h2
  go_enter Try.func3, Try.ntmps3
  go_wp2_with (first
    | (go_at_call 11; refine (awake_any _).mono ?_; rintro e w1 ⟨rfl, hb1⟩)
    | (go_at_call_of 12 (Value.int .i64 n); refine (HN.out _).mono ?_; rintro e w2 ⟨rfl, hb2⟩)
    | (go_at_call_of 13 (Value.string t); refine (HO.out _).mono ?_; rintro e w3 ⟨rfl, hw3⟩; have hw3' := hw3.symm; clear hw3; subst hw3')
    | (go_at_call 14; refine (HR.out _).mono ?_; rintro e w4 ⟨rfl, hb4⟩)
    | (go_at_call_of 13 (Value.string s); refine (HS.out _).mono ?_; rintro e w5 ⟨rfl, hw5⟩; have hw5' := hw5.symm; clear hw5; subst hw5'))
  go_ret
  exact ⟨rfl, G.bthen (G.bthen hb1 hb2) hb4⟩
set_option maxRecDepth 100000 in
set_option maxHeartbeats 4000000 in
theorem numbers_neg_ok (n : Int) (m : Nat) (hm : m ≤ 9223372036854775807) (h0 : n < 0) (h1 : m = 0) (s : ByteArray) (hs : (s.size : Int) ≤ 100) (h2 : (numOf s).2 = 0) (w : World) : Calls Try.prog 3 #[.int .i64 n, .string s] w fun e w' => e = .returned (.bool true) ∧ Below w.heap.size w w' := by
  have hN := fun V => number0_any m hm n (by omega) V
  have hR := fun V => rnumber_any m hm V
  have hO := fun V => numof_any (num8 m) (by rw [num8_size]; omega) V
  rw [numOf_num8 m hm] at hO
  rw [if_neg (by omega)] at hO
  have hmz : (m : Int) = 0 := by omega
  rw [hmz] at hO hR
  have hd : decide (n < 0) = true := decide_eq_true h0
  clear h0 hmz
  have hS := fun V => numof_any s (by omega) V
  obtain ⟨k, hk1, hk2, hk3⟩ := numOf_ok s h2
  rw [hk1, h2] at hS
  have hK := fun V => number0_any k (by omega) k (by omega) V
  rw [hk3] at hK
  have HK := Lib.hid hK
  have hd9 : decide ((k : Int) ≤ 4611686018427387904) = true := decide_eq_true (by omega)
  obtain ⟨t, ht⟩ : ∃ t, t = num8 m := ⟨_, rfl⟩
  rw [← ht] at hN hR hO
  have HN := Lib.hid hN
  have HR := Lib.hid hR
  have HO := Lib.hid hO
  have HS := Lib.hid hS
  clear hN hR hO hS ht h2 hk1 hk2 hk3 hK
  go_enter Try.func3, Try.ntmps3
  go_wp2_with (first
    | (go_at_call 11; refine (awake_any _).mono ?_; rintro e w1 ⟨rfl, hb1⟩)
    | (go_at_call_of 12 (Value.int .i64 k); refine (HK.out _).mono ?_; rintro e w6 ⟨rfl, hb6⟩)
    | (go_at_call_of 12 (Value.int .i64 n); refine (HN.out _).mono ?_; rintro e w2 ⟨rfl, hb2⟩)
    | (go_at_call_of 13 (Value.string t); refine (HO.out _).mono ?_; rintro e w3 ⟨rfl, hw3⟩; have hw3' := hw3.symm; clear hw3; subst hw3')
    | (go_at_call 14; refine (HR.out _).mono ?_; rintro e w4 ⟨rfl, hb4⟩)
    | (go_at_call_of 13 (Value.string s); refine (HS.out _).mono ?_; rintro e w5 ⟨rfl, hw5⟩; have hw5' := hw5.symm; clear hw5; subst hw5'))
  go_ret
  exact ⟨rfl, G.bthen (G.bthen (G.bthen hb1 hb2) hb4) hb6⟩
set_option maxRecDepth 100000 in
set_option maxHeartbeats 4000000 in
theorem numbers_small_bad (n : Int) (m : Nat) (hm : m ≤ 9223372036854775807) (h0 : n = m) (h1 : m ≤ 4611686018427387904) (s : ByteArray) (hs : (s.size : Int) ≤ 100) (h2 : (numOf s).2 ≠ 0) (w : World) : Calls Try.prog 3 #[.int .i64 n, .string s] w fun e w' => e = .returned (.bool true) ∧ Below w.heap.size w w' := by
  have hN := fun V => number0_any m hm n (by omega) V
  have hR := fun V => rnumber_any m hm V
  have hO := fun V => numof_any (num8 m) (by rw [num8_size]; omega) V
  rw [numOf_num8 m hm] at hO
  rw [if_neg (by omega)] at hO
  subst h0
  have hd : decide ((m : Int) < 0) = false := decide_eq_false (by omega)
  have hd2 : decide ((m : Int) ≤ 4611686018427387904) = true := decide_eq_true (by omega)
  have hd3 : decide ((4611686018427387904 : Int) < m) = false := decide_eq_false (by omega)
  clear h1
  have hS := fun V => numof_any s (by omega) V
  rw [numOf_bad s h2] at hS
  obtain ⟨t, ht⟩ : ∃ t, t = num8 m := ⟨_, rfl⟩
  rw [← ht] at hN hR hO
  have HN := Lib.hid hN
  have HR := Lib.hid hR
  have HO := Lib.hid hO
  have HS := Lib.hid hS
  clear hN hR hO hS ht h2
  go_enter Try.func3, Try.ntmps3
  go_wp2_with (first
    | (go_at_call 11; refine (awake_any _).mono ?_; rintro e w1 ⟨rfl, hb1⟩)
    | (go_at_call_of 12 (Value.int .i64 m); refine (HN.out _).mono ?_; rintro e w2 ⟨rfl, hb2⟩)
    | (go_at_call_of 13 (Value.string t); refine (HO.out _).mono ?_; rintro e w3 ⟨rfl, hw3⟩; have hw3' := hw3.symm; clear hw3; subst hw3')
    | (go_at_call 14; refine (HR.out _).mono ?_; rintro e w4 ⟨rfl, hb4⟩)
    | (go_at_call_of 13 (Value.string s); refine (HS.out _).mono ?_; rintro e w5 ⟨rfl, hw5⟩; have hw5' := hw5.symm; clear hw5; subst hw5'))
  go_ret
  exact ⟨rfl, G.bthen (G.bthen hb1 hb2) hb4⟩
set_option maxRecDepth 100000 in
set_option maxHeartbeats 4000000 in
theorem numbers_small_ok (n : Int) (m : Nat) (hm : m ≤ 9223372036854775807) (h0 : n = m) (h1 : m ≤ 4611686018427387904) (s : ByteArray) (hs : (s.size : Int) ≤ 100) (h2 : (numOf s).2 = 0) (w : World) : Calls Try.prog 3 #[.int .i64 n, .string s] w fun e w' => e = .returned (.bool true) ∧ Below w.heap.size w w' := by
  have hN := fun V => number0_any m hm n (by omega) V
  have hR := fun V => rnumber_any m hm V
  have hO := fun V => numof_any (num8 m) (by rw [num8_size]; omega) V
  rw [numOf_num8 m hm] at hO
  rw [if_neg (by omega)] at hO
  subst h0
  have hd : decide ((m : Int) < 0) = false := decide_eq_false (by omega)
  have hd2 : decide ((m : Int) ≤ 4611686018427387904) = true := decide_eq_true (by omega)
  have hd3 : decide ((4611686018427387904 : Int) < m) = false := decide_eq_false (by omega)
  clear h1
  have hS := fun V => numof_any s (by omega) V
  obtain ⟨k, hk1, hk2, hk3⟩ := numOf_ok s h2
  rw [hk1, h2] at hS
  have hK := fun V => number0_any k (by omega) k (by omega) V
  rw [hk3] at hK
  have HK := Lib.hid hK
  have hd9 : decide ((k : Int) ≤ 4611686018427387904) = true := decide_eq_true (by omega)
  obtain ⟨t, ht⟩ : ∃ t, t = num8 m := ⟨_, rfl⟩
  rw [← ht] at hN hR hO
  have HN := Lib.hid hN
  have HR := Lib.hid hR
  have HO := Lib.hid hO
  have HS := Lib.hid hS
  clear hN hR hO hS ht h2 hk1 hk2 hk3 hK
  go_enter Try.func3, Try.ntmps3
  go_wp2_with (first
    | (go_at_call 11; refine (awake_any _).mono ?_; rintro e w1 ⟨rfl, hb1⟩)
    | (go_at_call_of 12 (Value.int .i64 k); refine (HK.out _).mono ?_; rintro e w6 ⟨rfl, hb6⟩)
    | (go_at_call_of 12 (Value.int .i64 m); refine (HN.out _).mono ?_; rintro e w2 ⟨rfl, hb2⟩)
    | (go_at_call_of 13 (Value.string t); refine (HO.out _).mono ?_; rintro e w3 ⟨rfl, hw3⟩; have hw3' := hw3.symm; clear hw3; subst hw3')
    | (go_at_call 14; refine (HR.out _).mono ?_; rintro e w4 ⟨rfl, hb4⟩)
    | (go_at_call_of 13 (Value.string s); refine (HS.out _).mono ?_; rintro e w5 ⟨rfl, hw5⟩; have hw5' := hw5.symm; clear hw5; subst hw5'))
  go_ret
  exact ⟨rfl, G.bthen (G.bthen (G.bthen hb1 hb2) hb4) hb6⟩
set_option maxRecDepth 100000 in
set_option maxHeartbeats 4000000 in
theorem numbers_big_bad (n : Int) (m : Nat) (hm : m ≤ 9223372036854775807) (h0 : n = m) (h1 : 4611686018427387904 < m) (s : ByteArray) (hs : (s.size : Int) ≤ 100) (h2 : (numOf s).2 ≠ 0) (w : World) : Calls Try.prog 3 #[.int .i64 n, .string s] w fun e w' => e = .returned (.bool true) ∧ Below w.heap.size w w' := by
  have hN := fun V => number0_any m hm n (by omega) V
  have hR := fun V => rnumber_any m hm V
  have hO := fun V => numof_any (num8 m) (by rw [num8_size]; omega) V
  rw [numOf_num8 m hm] at hO
  rw [if_pos h1] at hO
  subst h0
  have hd : decide ((m : Int) < 0) = false := decide_eq_false (by omega)
  have hd2 : decide ((m : Int) ≤ 4611686018427387904) = false := decide_eq_false (by omega)
  have hd3 : decide ((4611686018427387904 : Int) < m) = true := decide_eq_true (by omega)
  clear h1
  have hS := fun V => numof_any s (by omega) V
  rw [numOf_bad s h2] at hS
  obtain ⟨t, ht⟩ : ∃ t, t = num8 m := ⟨_, rfl⟩
  rw [← ht] at hN hR hO
  have HN := Lib.hid hN
  have HR := Lib.hid hR
  have HO := Lib.hid hO
  have HS := Lib.hid hS
  clear hN hR hO hS ht h2
  go_enter Try.func3, Try.ntmps3
  go_wp2_with (first
    | (go_at_call 11; refine (awake_any _).mono ?_; rintro e w1 ⟨rfl, hb1⟩)
    | (go_at_call_of 12 (Value.int .i64 m); refine (HN.out _).mono ?_; rintro e w2 ⟨rfl, hb2⟩)
    | (go_at_call_of 13 (Value.string t); refine (HO.out _).mono ?_; rintro e w3 ⟨rfl, hw3⟩; have hw3' := hw3.symm; clear hw3; subst hw3')
    | (go_at_call 14; refine (HR.out _).mono ?_; rintro e w4 ⟨rfl, hb4⟩)
    | (go_at_call_of 13 (Value.string s); refine (HS.out _).mono ?_; rintro e w5 ⟨rfl, hw5⟩; have hw5' := hw5.symm; clear hw5; subst hw5'))
  go_ret
  exact ⟨rfl, G.bthen (G.bthen hb1 hb2) hb4⟩
set_option maxRecDepth 100000 in
set_option maxHeartbeats 4000000 in
theorem numbers_big_ok (n : Int) (m : Nat) (hm : m ≤ 9223372036854775807) (h0 : n = m) (h1 : 4611686018427387904 < m) (s : ByteArray) (hs : (s.size : Int) ≤ 100) (h2 : (numOf s).2 = 0) (w : World) : Calls Try.prog 3 #[.int .i64 n, .string s] w fun e w' => e = .returned (.bool true) ∧ Below w.heap.size w w' := by
  have hN := fun V => number0_any m hm n (by omega) V
  have hR := fun V => rnumber_any m hm V
  have hO := fun V => numof_any (num8 m) (by rw [num8_size]; omega) V
  rw [numOf_num8 m hm] at hO
  rw [if_pos h1] at hO
  subst h0
  have hd : decide ((m : Int) < 0) = false := decide_eq_false (by omega)
  have hd2 : decide ((m : Int) ≤ 4611686018427387904) = false := decide_eq_false (by omega)
  have hd3 : decide ((4611686018427387904 : Int) < m) = true := decide_eq_true (by omega)
  clear h1
  have hS := fun V => numof_any s (by omega) V
  obtain ⟨k, hk1, hk2, hk3⟩ := numOf_ok s h2
  rw [hk1, h2] at hS
  have hK := fun V => number0_any k (by omega) k (by omega) V
  rw [hk3] at hK
  have HK := Lib.hid hK
  have hd9 : decide ((k : Int) ≤ 4611686018427387904) = true := decide_eq_true (by omega)
  obtain ⟨t, ht⟩ : ∃ t, t = num8 m := ⟨_, rfl⟩
  rw [← ht] at hN hR hO
  have HN := Lib.hid hN
  have HR := Lib.hid hR
  have HO := Lib.hid hO
  have HS := Lib.hid hS
  clear hN hR hO hS ht h2 hk1 hk2 hk3 hK
  go_enter Try.func3, Try.ntmps3
  go_wp2_with (first
    | (go_at_call 11; refine (awake_any _).mono ?_; rintro e w1 ⟨rfl, hb1⟩)
    | (go_at_call_of 12 (Value.int .i64 k); refine (HK.out _).mono ?_; rintro e w6 ⟨rfl, hb6⟩)
    | (go_at_call_of 12 (Value.int .i64 m); refine (HN.out _).mono ?_; rintro e w2 ⟨rfl, hb2⟩)
    | (go_at_call_of 13 (Value.string t); refine (HO.out _).mono ?_; rintro e w3 ⟨rfl, hw3⟩; have hw3' := hw3.symm; clear hw3; subst hw3')
    | (go_at_call 14; refine (HR.out _).mono ?_; rintro e w4 ⟨rfl, hb4⟩)
    | (go_at_call_of 13 (Value.string s); refine (HS.out _).mono ?_; rintro e w5 ⟨rfl, hw5⟩; have hw5' := hw5.symm; clear hw5; subst hw5'))
  go_ret
  exact ⟨rfl, G.bthen (G.bthen (G.bthen hb1 hb2) hb4) hb6⟩
theorem numbers_walk (n : Int) (hn : -9223372036854775808 ≤ n ∧ n ≤ 9223372036854775807) (s : ByteArray) (w : World) : Calls Try.prog 3 #[.int .i64 n, .string s] w fun e w' => e = .returned (.bool true) ∧ Below w.heap.size w w' := by
  by_cases hs : (100 : Int) < s.size
  · exact numbers_long n s hs w
  have hs2 : (s.size : Int) ≤ 100 := by omega
  by_cases h2 : (numOf s).2 = 0
  · by_cases h0 : n < 0
    · exact numbers_neg_ok n 0 (by omega) h0 rfl s hs2 h2 w
    · by_cases h1 : n.toNat ≤ 4611686018427387904
      · exact numbers_small_ok n n.toNat (by omega) (by omega) h1 s hs2 h2 w
      · exact numbers_big_ok n n.toNat (by omega) (by omega) (by omega) s hs2 h2 w
  · by_cases h0 : n < 0
    · exact numbers_neg_bad n 0 (by omega) h0 rfl s hs2 h2 w
    · by_cases h1 : n.toNat ≤ 4611686018427387904
      · exact numbers_small_bad n n.toNat (by omega) (by omega) h1 s hs2 h2 w
      · exact numbers_big_bad n n.toNat (by omega) (by omega) (by omega) s hs2 h2 w
theorem numbers_row (n : Int) (b1 : -9223372036854775808 ≤ n) (b2 : n ≤ 9223372036854775807) (s : ByteArray) (_ : s.size ≤ 140737488351232) (w : World) : Calls Try.prog 3 #[.int .i64 n, .string s] w fun e w' => e = .returned (.bool true) ∧ Below w.heap.size w w' := numbers_walk n ⟨b1, b2⟩ s w
end Go.Proofs.Ytolndeolehkjoaa
