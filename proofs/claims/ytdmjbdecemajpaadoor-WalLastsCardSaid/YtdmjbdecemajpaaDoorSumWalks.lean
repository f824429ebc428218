/- The walks of package sum and of the reference's sum: each Go function computes what SumPure says, from any memory that holds the table. -/
import Derived.Test.YtdmjbdecemajpaaDoorProg
import Derived.Test.YtdmjbdecemajpaaDoorSumPure
import Derived.WalkKit
import Derived.RowKit
import Derived.Lib.Hide
import Derived.Deep.QuietTactic
import Derived.BigQuiet
namespace Go.Proofs.YtdmjbdecemajpaaDoor
open Go.RowKit SumP
theorem ret_int {k : IntKind} {a b : Int} (h : a = b) : Ending.returned (.int k a) = .returned (.int k b) := by rw [h]
theorem x32 (a b : Nat) (ha : a < 4294967296) (hb : b < 4294967296) : bits .xor .u32 (a : Int) (b : Int) = ((a ^^^ b : Nat) : Int) := u32_xor_nat a b ha hb
theorem m15 (a : Nat) (ha : a < 4294967296) : bits .and .u32 (a : Int) 15 = ((a % 16 : Nat) : Int) := by
  rw [show (15 : Int) = ((15 : Nat) : Int) by rfl, u32_and_nat a 15 ha (by omega), nat_mask4]
theorem not32 (a : Nat) (ha : a < 4294967296) : bits .xor .u32 IntKind.u32.max (a : Int) = ((4294967295 - a : Nat) : Int) := by
  rw [show IntKind.u32.max = ((4294967295 : Nat) : Int) by rfl, u32_xor_nat _ a (by omega) ha]
  have h : (BitVec.allOnes 32 ^^^ BitVec.ofNat 32 a).toNat = (~~~ BitVec.ofNat 32 a).toNat := by rw [BitVec.not_def]
  rw [BitVec.toNat_not, BitVec.toNat_xor, BitVec.toNat_allOnes, BitVec.toNat_ofNat, Nat.mod_eq_of_lt (show a < 2 ^ 32 by omega)] at h
  simp at h
  omega
/-- a text's bytes as numbers -/
def nb (s : ByteArray) : List Nat := s.data.toList.map (·.toNat)
theorem nb_length (s : ByteArray) : (nb s).length = s.size := by simp [nb]
theorem nb_lt (s : ByteArray) : ∀ b ∈ nb s, b < 256 := by
  intro b hb
  simp only [nb, List.mem_map] at hb
  obtain ⟨x, _, rfl⟩ := hb
  exact x.toNat_lt
theorem nb_take (s : ByteArray) (k : Nat) (h : k < s.size) : (nb s).take (k + 1) = (nb s).take k ++ [s[k].toNat] := by
  have h1 : k < (nb s).length := by rw [nb_length]; exact h
  rw [List.take_succ_eq_append_getElem h1]
  congr 2
  simp [nb]
  rfl
/-- the sum with more bytes behind -/
def onN (r : Nat) (s : ByteArray) : Nat := 4294967295 - run (4294967295 - r) (nb s)
theorem onN_lt (r : Nat) (s : ByteArray) : onN r s < 4294967296 := by unfold onN; omega
/-- the table lies in block 0 -/
def TabOf (w : World) : Prop := ∀ j, j < 16 → w.cell? ⟨0, j, none⟩ = some (.int .u32 ((row.getD j 0 : Nat) : Int))
theorem TabOf.below {w w' : World} (h : TabOf w) (hb : Below w.heap.size w w') : TabOf w' := fun j hj => by
  have h0 := h j hj
  rw [← h0]
  exact hb.cell (World.block_lt_of_cell? w _ h0)
theorem row_lt (j : Nat) : row.getD j 0 < 4294967296 := by
  rcases Nat.lt_or_ge j 16 with h | h
  · revert j; decide
  · rw [List.getD_eq_getElem?_getD, List.getElem?_eq_none (by simp [row]; omega)]; decide

set_option maxHeartbeats 400000 in
theorem on_any (r : Nat) (hr : r < 4294967296) (s : ByteArray) (hs : s.size ≤ 140737488351232) (w : World) (hT : Hid (TabOf w)) :
    Calls Tryd.prog 15 #[.int .u32 r, .string s] w fun e w' => e = .returned (.int .u32 (onN r s : Nat)) ∧ w = w' := by
  have e0 := not32 r hr
  go_enter Tryd.func15, Tryd.ntmps15
  go_wp2
  go_loop [5, 11] (fun x i => ∃ (k : Nat) (n : Nat), k ≤ s.size ∧ n < 4294967296 ∧ i = .int .i64 k ∧ x = .int .u32 n ∧ Hid (n = run (4294967295 - r) ((nb s).take k))) (fun _ i => s.size - (intOf i).toNat)
  case atStart => exact ⟨0, _, by omega, (by omega : 4294967295 - r < 4294967296), rfl, by rfl, Lib.hid (by simp [run])⟩
  case round =>
    obtain ⟨k, n, hk, hn, rfl, rfl, H⟩ := hrel
    by_cases hlt : k < s.size
    · have hb : s[k].toNat < 256 := s[k].toNat_lt
      obtain ⟨m1, hm1⟩ : ∃ m, m = n ^^^ s[k].toNat := ⟨_, rfl⟩
      have l1 : m1 < 4294967296 := by rw [hm1]; exact xor_lt32 hn (by omega)
      have e1 : bits .xor .u32 (n : Int) (s[k].toNat : Int) = (m1 : Int) := by rw [hm1]; exact x32 _ _ hn (by omega)
      obtain ⟨j1, hj1⟩ : ∃ j, j = m1 % 16 := ⟨_, rfl⟩
      have e2 : bits .and .u32 (m1 : Int) 15 = (j1 : Int) := by rw [hj1]; exact m15 _ l1
      have b1 : (j1 : Int) < 16 := by omega
      obtain ⟨t1, ht1⟩ : ∃ t, t = row.getD j1 0 := ⟨_, rfl⟩
      have lt1 : t1 < 4294967296 := by rw [ht1]; exact row_lt _
      have c1 : w.cell? ⟨0, j1, none⟩ = some (.int .u32 (t1 : Int)) := by rw [ht1]; exact hT _ (by omega)
      obtain ⟨m2, hm2⟩ : ∃ m, m = (m1 / 16) ^^^ t1 := ⟨_, rfl⟩
      have l2 : m2 < 4294967296 := by rw [hm2]; exact xor_lt32 (by omega) lt1
      have e3 : bits .xor .u32 ((m1 : Int) / 16) (t1 : Int) = (m2 : Int) := by rw [hm2]; exact x32 (m1 / 16) _ (by omega) lt1
      obtain ⟨j2, hj2⟩ : ∃ j, j = m2 % 16 := ⟨_, rfl⟩
      have e4 : bits .and .u32 (m2 : Int) 15 = (j2 : Int) := by rw [hj2]; exact m15 _ l2
      have b2 : (j2 : Int) < 16 := by omega
      obtain ⟨t2, ht2⟩ : ∃ t, t = row.getD j2 0 := ⟨_, rfl⟩
      have lt2 : t2 < 4294967296 := by rw [ht2]; exact row_lt _
      have c2 : w.cell? ⟨0, j2, none⟩ = some (.int .u32 (t2 : Int)) := by rw [ht2]; exact hT _ (by omega)
      obtain ⟨m3, hm3⟩ : ∃ m, m = (m2 / 16) ^^^ t2 := ⟨_, rfl⟩
      have l3 : m3 < 4294967296 := by rw [hm3]; exact xor_lt32 (by omega) lt2
      have e5 : bits .xor .u32 ((m2 : Int) / 16) (t2 : Int) = (m3 : Int) := by rw [hm3]; exact x32 (m2 / 16) _ (by omega) lt2
      have hstep : m3 = run (4294967295 - r) ((nb s).take (k + 1)) := by
        rw [nb_take s k hlt, run_append, ← H]
        show m3 = by_ n _
        unfold by_ st8; rw [nib, nib, ← hm1, ← hj1, ← ht1, ← hm2, ← hj2, ← ht2, ← hm3]
      have Hs := Lib.hid hstep
      clear hstep hm1 hj1 ht1 hm2 hj2 ht2 hm3 H
      go_wp2
      go_round
      case rel => exact ⟨k + 1, m3, by omega, l3, by go_num, rfl, Hs⟩
      case measure => simp [intOf]; omega
    · have e1 := not32 n hn
      have hfin : n = run (4294967295 - r) (nb s) := by
        have h : n = run (4294967295 - r) ((nb s).take k) := H
        rwa [List.take_of_length_le (by rw [nb_length]; omega)] at h
      have Hf := Lib.hid hfin
      clear hfin H
      go_wp2
      go_ret
      exact ⟨ret_int (by unfold onN; rw [← Hf.out]), rfl⟩

set_option maxHeartbeats 400000 in
theorem of_any (s : ByteArray) (hs : s.size ≤ 140737488351232) (w : World) (hT : Hid (TabOf w)) :
    Calls Tryd.prog 13 #[.string s] w fun e w' => e = .returned (.int .u32 (onN 0 s : Nat)) ∧ w = w' := by
  go_enter Tryd.func13, Tryd.ntmps13
  go_wp2_with (go_at_call 15; refine (on_any 0 (by omega) s hs _ hT).mono ?_; rintro e w' ⟨rfl, rfl⟩)
  go_ret
  exact ⟨rfl, rfl⟩

theorem awake_num : onN 0 ⟨#[49, 50, 51, 52, 53, 54, 55, 56, 57]⟩ = 3808858755 := by decide +kernel
set_option maxHeartbeats 400000 in
theorem awake08 (w : World) (hT : Hid (TabOf w)) :
    Calls Tryd.prog 12 #[] w fun e w' => e = .returned (.bool true) ∧ w = w' := by
  have h := of_any ⟨#[49, 50, 51, 52, 53, 54, 55, 56, 57]⟩ (by decide) w hT
  rw [awake_num] at h
  have H := Lib.hid h
  clear h
  go_enter Tryd.func12, Tryd.ntmps12
  go_wp2_with (go_at_call 13; refine (Calls.mono (H.out) ?_); rintro e w' ⟨rfl, rfl⟩)
  go_ret
  exact ⟨rfl, rfl⟩
end Go.Proofs.YtdmjbdecemajpaaDoor
