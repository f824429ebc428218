/- The number of eight bytes. -/
import Derived.Test.YtolndeolehkjoaaRd2
namespace Go.Proofs.Ytolndeolehkjoaa
set_option linter.unusedVariables false
set_option linter.unusedSimpArgs false
open Go.RowKit CodP
/-- the number of the first k bytes -/
def pre8 (x : ByteArray) (k : Nat) : Nat := ((BL x).take k).foldl (fun n b => n * 256 + b.toNat) 0
theorem pre8_succ (x : ByteArray) (k : Nat) (h : k < x.size) : pre8 x (k + 1) = pre8 x k * 256 + (x[k]'h).toNat := by
  unfold pre8
  have : (BL x)[k]? = some x[k] := by
    simp only [BL, Array.getElem?_toList]
    exact Array.getElem?_eq_getElem h
  rw [List.take_add_one, this, List.foldl_append]; rfl
theorem pre8_lt (x : ByteArray) (k : Nat) (hk : k ≤ x.size) : pre8 x k < 256 ^ k := by
  induction k with
  | zero => simp [pre8]
  | succ k ih =>
    rw [pre8_succ x k (by omega), Nat.pow_succ]
    have := ih (by omega)
    have h2 := (x[k]'(by omega)).toNat_lt
    have h3 : pre8 x k * 256 + 256 ≤ 256 ^ k * 256 := by
      have : (pre8 x k + 1) * 256 ≤ 256 ^ k * 256 := Nat.mul_le_mul_right _ this
      omega
    omega
theorem pre8_all (x : ByteArray) (h : x.size = 8) : pre8 x 8 = be8 x := by
  unfold pre8 be8
  rw [List.take_of_length_le (by rw [BL_length]; omega)]
set_option maxRecDepth 100000 in
theorem or64 (p c : Nat) (hc : c < 256) (h : p * 256 + c < 18446744073709551616) : bits BinOp.or IntKind.u64 ((p : Int) * 256) c = ((p * 256 + c : Nat) : Int) := by
  have h1 : p * 256 ||| c = p * 256 + c := by rw [nat_join 8 (p * 256) c (Nat.mul_mod_left p 256) hc]
  rw [show (p : Int) * 256 = ((p * 256 : Nat) : Int) by omega, u64_or_nat _ _ (by omega) (by omega), h1]
set_option maxRecDepth 100000 in
set_option maxHeartbeats 1000000 in
theorem numof_any (x : ByteArray) (hx : x.size ≤ 1000000) (w : World) :
    Calls Try.prog 13 #[.string x] w fun e w' => e = .returned (.tuple #[.int .i64 (numOf x).1, .int .i64 (numOf x).2]) ∧ w' = w := by
  by_cases h8 : x.size = 8
  · have hn : ((x.size : Int) != 8) = false := by simp [h8]
    have hpre := pre8_all x h8
    have hlt := pre8_lt x 8 (by omega)
    go_enter Try.func13, Try.ntmps13
    go_wp2
    go_loopw [4, 9] (fun n i wr => ∃ k : Nat, k ≤ 8 ∧ i = .int .i64 k ∧ n = .int .u64 (pre8 x k) ∧ wr = w) (fun _ i _ => 8 - (intOf i).toNat)
    case atStart => exact ⟨0, by omega, rfl, rfl, rfl⟩
    case round =>
      obtain ⟨k, hk, rfl, rfl, rfl⟩ := hrel
      by_cases hk8 : k < 8
      · have hs := pre8_succ x k (by omega)
        have hl := pre8_lt x (k + 1) (by omega)
        have hix : ∀ W, (Instr.index 9 (.string x) (.int .i64 k)).run Try.prog W = .ok (.int .u8 ((x[k]'(by omega)).toNat : Nat)) W := fun W => by
          rw [run_index_string W 9 x .i64 k Try.underlying9, dif_pos ⟨by omega, by omega⟩]
          simp only [Int.toNat_natCast]
        obtain ⟨c, hc⟩ : ∃ c, c = (x[k]'(by omega)).toNat := ⟨_, rfl⟩
        have hc2 : c < 256 := by rw [hc]; exact (x[k]'(by omega)).toNat_lt
        rw [← hc] at hs hix
        obtain ⟨p, hp⟩ : ∃ p, p = pre8 x k := ⟨_, rfl⟩
        rw [← hp] at hs ⊢
        have HS := Lib.hid hs
        have HL := Lib.hid hl
        have hp2 : p * 256 + c < 18446744073709551616 := by
          have h1 : pre8 x (k + 1) < 256 ^ 8 := Nat.lt_of_lt_of_le hl (Nat.pow_le_pow_right (by decide) (by omega))
          rw [hs] at h1
          exact h1
        clear hs hl hc hp
        have hwr : IntKind.u64.wrap ((p : Int) * 256) = (p : Int) * 256 := by rw [IntKind.wrap_u64]; omega
        have hor : bits BinOp.or IntKind.u64 ((p : Int) * 256) c = ((p * 256 + c : Nat) : Int) := or64 p c hc2 hp2
        go_wp2
        go_roundw
        case rel => exact ⟨k + 1, by omega, rfl, by rw [HS.out]; exact congrArg (Value.int .u64) (by omega), trivial⟩
        case measure => simp [intOf]; omega
      · obtain rfl : k = 8 := by omega
        rw [hpre]
        have hlt2 : be8 x < 18446744073709551616 := by rw [← hpre]; exact hlt
        obtain ⟨n, hn⟩ : ∃ n, n = be8 x := ⟨_, rfl⟩
        rw [← hn] at hlt2 ⊢
        have HN := Lib.hid hn
        clear hn hpre hlt
        by_cases hbig : n > 4611686018427387904
        · have hb : (4611686018427387904 : Int) < n := by omega
          have hf : numOf x = (0, 4) := by simp only [numOf]; rw [if_neg (by omega), if_pos (by rw [← HN.out]; exact hbig)]
          have HF := Lib.hid hf
          clear hbig hf
          go_wp2
          go_ret2
          exact ⟨by rw [HF.out]; rfl, rfl⟩
        · have hb : (n : Int) ≤ 4611686018427387904 := by omega
          have hf : numOf x = ((n : Int), 0) := by simp only [numOf]; rw [if_neg (by omega), if_neg (by rw [← HN.out]; exact hbig), ← HN.out]
          have HF := Lib.hid hf
          have hw : wrap64 (n : Int) = n := wr64 (by omega)
          clear hbig hf
          go_wp2
          go_ret2
          exact ⟨by rw [HF.out]; rfl, rfl⟩
  · have hn : ((x.size : Int) != 8) = true := by simp; omega
    have hf : numOf x = (0, 4) := by simp only [numOf]; rw [if_pos h8]
    have HF := Lib.hid hf
    clear hf h8
    go_enter Try.func13, Try.ntmps13
    go_wp2
    go_ret2
    exact ⟨by rw [HF.out]; rfl, rfl⟩
end Go.Proofs.Ytolndeolehkjoaa
