/- A number's eight bytes. -/
import Derived.Test.YtolndeolehkjoaaWr2
namespace Go.Proofs.Ytolndeolehkjoaa
set_option linter.unusedVariables false
set_option linter.unusedSimpArgs false
open Go.RowKit CodP
def cN (n : Int) (k : Nat) : Array Value := #[.int .u8 (if 8 ≤ k then n / 72057594037927936 else 0), .int .u8 (if 7 ≤ k then n / 281474976710656 % 256 else 0), .int .u8 (if 6 ≤ k then n / 1099511627776 % 256 else 0), .int .u8 (if 5 ≤ k then n / 4294967296 % 256 else 0), .int .u8 (if 4 ≤ k then n / 16777216 % 256 else 0), .int .u8 (if 3 ≤ k then n / 65536 % 256 else 0), .int .u8 (if 2 ≤ k then n / 256 % 256 else 0), .int .u8 (if 1 ≤ k then n % 256 else 0)]
theorem nums8 (n : Nat) : strOfNums [(n : Int) / 72057594037927936, (n : Int) / 281474976710656 % 256, (n : Int) / 1099511627776 % 256, (n : Int) / 4294967296 % 256, (n : Int) / 16777216 % 256, (n : Int) / 65536 % 256, (n : Int) / 256 % 256, (n : Int) % 256] = num8 n := by
  apply BL_inj
  rw [num8, BL_ofBL]
  simp only [strOfNums, BL, List.map_cons, List.map_nil, List.cons.injEq, and_true]
  refine ⟨?_, ?_, ?_, ?_, ?_, ?_, ?_, ?_⟩ <;> (rw [← UInt8.toNat_inj]; simp only [UInt8.toNat_ofNat']; omega)
set_option maxRecDepth 100000 in
set_option maxHeartbeats 2000000 in
theorem number0_any (n : Nat) (hn : n ≤ 9223372036854775807) (m : Int) (hm : max 0 m = n) (w : World) :
    Calls Try.prog 12 #[.int .i64 m] w fun e w' => e = .returned (.string (num8 n)) ∧ Below w.heap.size w w' := by
  have hA : (w.alloc (.cells (cN n 0) 68)).heap[w.heap.size]? = some (.cells (cN n 0) 68 (0, 0)) := G.heap_new _ _
  have HA := Lib.hid hA
  have HN8 := Lib.hid (nums8 n)
  clear hA
  go_enter Try.func12, Try.ntmps12
  go_wp2
  go_loopw [7] (fun i wr => ∃ k : Nat, k ≤ 8 ∧ i = .int .i64 k ∧ Hid (wr.heap[w.heap.size]? = some (.cells (cN n k) 68 (0, 0)) ∧ Below w.heap.size w wr)) (fun i _ => 8 - (intOf i).toNat)
  case atStart => exact ⟨0, by omega, rfl, Lib.hid ⟨HA.out, (Below.refl _ _).alloc (Nat.le_refl _) _⟩⟩
  case round =>
    obtain ⟨k, hk, rfl, H⟩ := hrel
    by_cases hk8 : k < 8
    · rcases (by omega : k = 0 ∨ k = 1 ∨ k = 2 ∨ k = 3 ∨ k = 4 ∨ k = 5 ∨ k = 6 ∨ k = 7) with rfl | rfl | rfl | rfl | rfl | rfl | rfl | rfl
      case inl =>
        have c := cellk wr _ H.out.1 7 (Nat.lt_of_sub_eq_succ rfl)
        have f := frozk wr _ H.out.1 7
        have hnext := heap_setCell_same wr w.heap.size 7 _ _ (.int .u8 ((n : Int) % 256)) H.out.1
        have HNX := Lib.hid hnext
        clear hnext
        go_wp2
        go_roundw
        case rel =>
          exact ⟨1, by omega, rfl, Lib.hid ⟨HNX.out, H.out.2.setCell (p := ⟨w.heap.size, _, none⟩) (Nat.le_refl _) _⟩⟩
        case measure => simp [intOf]
      case inr.inl =>
        have c := cellk wr _ H.out.1 6 (Nat.lt_of_sub_eq_succ rfl)
        have f := frozk wr _ H.out.1 6
        have hnext := heap_setCell_same wr w.heap.size 6 _ _ (.int .u8 ((n : Int) / 256 % 256)) H.out.1
        have HNX := Lib.hid hnext
        clear hnext
        go_wp2
        go_roundw
        case rel =>
          exact ⟨2, by omega, rfl, Lib.hid ⟨HNX.out, H.out.2.setCell (p := ⟨w.heap.size, _, none⟩) (Nat.le_refl _) _⟩⟩
        case measure => simp [intOf]
      case inr.inr.inl =>
        have c := cellk wr _ H.out.1 5 (Nat.lt_of_sub_eq_succ rfl)
        have f := frozk wr _ H.out.1 5
        have hnext := heap_setCell_same wr w.heap.size 5 _ _ (.int .u8 ((n : Int) / 65536 % 256)) H.out.1
        have HNX := Lib.hid hnext
        clear hnext
        go_wp2
        go_roundw
        case rel =>
          exact ⟨3, by omega, rfl, Lib.hid ⟨HNX.out, H.out.2.setCell (p := ⟨w.heap.size, _, none⟩) (Nat.le_refl _) _⟩⟩
        case measure => simp [intOf]
      case inr.inr.inr.inl =>
        have c := cellk wr _ H.out.1 4 (Nat.lt_of_sub_eq_succ rfl)
        have f := frozk wr _ H.out.1 4
        have hnext := heap_setCell_same wr w.heap.size 4 _ _ (.int .u8 ((n : Int) / 16777216 % 256)) H.out.1
        have HNX := Lib.hid hnext
        clear hnext
        go_wp2
        go_roundw
        case rel =>
          exact ⟨4, by omega, rfl, Lib.hid ⟨HNX.out, H.out.2.setCell (p := ⟨w.heap.size, _, none⟩) (Nat.le_refl _) _⟩⟩
        case measure => simp [intOf]
      case inr.inr.inr.inr.inl =>
        have c := cellk wr _ H.out.1 3 (Nat.lt_of_sub_eq_succ rfl)
        have f := frozk wr _ H.out.1 3
        have hnext := heap_setCell_same wr w.heap.size 3 _ _ (.int .u8 ((n : Int) / 4294967296 % 256)) H.out.1
        have HNX := Lib.hid hnext
        clear hnext
        go_wp2
        go_roundw
        case rel =>
          exact ⟨5, by omega, rfl, Lib.hid ⟨HNX.out, H.out.2.setCell (p := ⟨w.heap.size, _, none⟩) (Nat.le_refl _) _⟩⟩
        case measure => simp [intOf]
      case inr.inr.inr.inr.inr.inl =>
        have c := cellk wr _ H.out.1 2 (Nat.lt_of_sub_eq_succ rfl)
        have f := frozk wr _ H.out.1 2
        have hnext := heap_setCell_same wr w.heap.size 2 _ _ (.int .u8 ((n : Int) / 1099511627776 % 256)) H.out.1
        have HNX := Lib.hid hnext
        clear hnext
        go_wp2
        go_roundw
        case rel =>
          exact ⟨6, by omega, rfl, Lib.hid ⟨HNX.out, H.out.2.setCell (p := ⟨w.heap.size, _, none⟩) (Nat.le_refl _) _⟩⟩
        case measure => simp [intOf]
      case inr.inr.inr.inr.inr.inr.inl =>
        have c := cellk wr _ H.out.1 1 (Nat.lt_of_sub_eq_succ rfl)
        have f := frozk wr _ H.out.1 1
        have hnext := heap_setCell_same wr w.heap.size 1 _ _ (.int .u8 ((n : Int) / 281474976710656 % 256)) H.out.1
        have HNX := Lib.hid hnext
        clear hnext
        go_wp2
        go_roundw
        case rel =>
          exact ⟨7, by omega, rfl, Lib.hid ⟨HNX.out, H.out.2.setCell (p := ⟨w.heap.size, _, none⟩) (Nat.le_refl _) _⟩⟩
        case measure => simp [intOf]
      case inr.inr.inr.inr.inr.inr.inr =>
        have c := cellk wr _ H.out.1 0 (Nat.lt_of_sub_eq_succ rfl)
        have f := frozk wr _ H.out.1 0
        have hnext := heap_setCell_same wr w.heap.size 0 _ _ (.int .u8 ((n : Int) / 72057594037927936)) H.out.1
        have HNX := Lib.hid hnext
        clear hnext
        go_wp2
        go_roundw
        case rel =>
          exact ⟨8, by omega, rfl, Lib.hid ⟨HNX.out, H.out.2.setCell (p := ⟨w.heap.size, _, none⟩) (Nat.le_refl _) _⟩⟩
        case measure => simp [intOf]
    · obtain rfl : k = 8 := by omega
      have hcv : (convert 67 9 (.slice (some ⟨w.heap.size, 0, none⟩) 8 8)).run Try.prog wr = .ok (.string (num8 n)) wr := by
        rw [← HN8.out]
        refine run_convert_bytes_arg _ 67 5 Try.underlying67 Try.underlying5 w.heap.size 0 8 8 _ rfl (fun i hi => ?_) 9 Try.underlying9
        have key := fun j (hj : j < (cN n 8).size) => cellk wr _ H.out.1 j hj
        match i, hi with
        | 0, _ => exact key 0 (Nat.lt_of_sub_eq_succ rfl)
        | 1, _ => exact key 1 (Nat.lt_of_sub_eq_succ rfl)
        | 2, _ => exact key 2 (Nat.lt_of_sub_eq_succ rfl)
        | 3, _ => exact key 3 (Nat.lt_of_sub_eq_succ rfl)
        | 4, _ => exact key 4 (Nat.lt_of_sub_eq_succ rfl)
        | 5, _ => exact key 5 (Nat.lt_of_sub_eq_succ rfl)
        | 6, _ => exact key 6 (Nat.lt_of_sub_eq_succ rfl)
        | 7, _ => exact key 7 (Nat.lt_of_sub_eq_succ rfl)
      go_wp2
      go_ret
      exact ⟨rfl, H.out.2⟩
end Go.Proofs.Ytolndeolehkjoaa
