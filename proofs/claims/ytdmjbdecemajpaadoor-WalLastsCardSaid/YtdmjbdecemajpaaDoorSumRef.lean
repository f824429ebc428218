/- The walks of the reference's sum, of the four bytes of a sum, and of the reading of these. -/
import Derived.Test.YtdmjbdecemajpaaDoorSumWalks
namespace Go.Proofs.YtdmjbdecemajpaaDoor
open Go.RowKit SumP
def sti : Nat → Nat → Nat
  | 0, m => m
  | j + 1, m => st (sti j m)
theorem sti_lt (j m : Nat) (h : m < 4294967296) : sti j m < 4294967296 := by
  induction j with
  | zero => exact h
  | succ j ih => exact st_lt ih

set_option maxHeartbeats 400000 in
theorem refOn_any (r : Nat) (hr : r < 4294967296) (s : ByteArray) (hs : s.size ≤ 140737488351232) (w : World) :
    Calls Tryd.prog 14 #[.int .u32 r, .string s] w fun e w' => e = .returned (.int .u32 (onN r s : Nat)) ∧ w = w' := by
  go_enter Tryd.func14, Tryd.ntmps14
  go_wp2
  go_loop [5, 6] (fun x i => ∃ (k : Nat) (n : Nat), k ≤ s.size ∧ n < 4294967296 ∧ i = .int .i64 k ∧ x = .int .u32 n ∧ Hid (n = run (4294967295 - r) ((nb s).take k))) (fun _ i => s.size - (intOf i).toNat)
  case atStart => exact ⟨0, _, by omega, (by omega : 4294967295 - r < 4294967296), rfl, by go_num, Lib.hid (by simp [run])⟩
  case round =>
    obtain ⟨k, n, hk, hn, rfl, rfl, H⟩ := hrel
    by_cases hlt : k < s.size
    · have hb : s[k].toNat < 256 := s[k].toNat_lt
      obtain ⟨m, hm⟩ : ∃ m, m = n ^^^ s[k].toNat := ⟨_, rfl⟩
      have l1 : m < 4294967296 := by rw [hm]; exact xor_lt32 hn (by omega)
      have e1 : bits .xor .u32 (n : Int) (s[k].toNat : Int) = (m : Int) := by rw [hm]; exact x32 _ _ hn (by omega)
      have hstep : sti 8 m = run (4294967295 - r) ((nb s).take (k + 1)) := by
        rw [nb_take s k hlt, run_append, ← H, hm]
        rfl
      have Hs := Lib.hid hstep
      clear hstep hm H
      go_wp2
      go_loop [5, 7] (fun x i => ∃ (j : Nat) (q : Nat), j ≤ 8 ∧ q < 4294967296 ∧ i = .int .i64 j ∧ x = .int .u32 q ∧ Hid (q = sti j m)) (fun _ i => 8 - (intOf i).toNat)
      case atStart => exact ⟨0, m, by omega, l1, rfl, rfl, Lib.hid rfl⟩
      case round =>
        obtain ⟨j, q, hj, hq, rfl, rfl, Hq⟩ := hrel
        by_cases hj8 : j < 8
        · by_cases hodd : q % 2 = 1
          · have t1 : (((q : Int) % 2 == 1) : Bool) = true := by rw [beq_iff_eq]; omega
            obtain ⟨m2, hm2⟩ : ∃ m2, m2 = q / 2 ^^^ 2197175160 := ⟨_, rfl⟩
            have e2 : bits .xor .u32 ((q : Int) / 2) 2197175160 = (m2 : Int) := by rw [hm2]; exact x32 (q / 2) 2197175160 (by omega) (by omega)
            have l2 : m2 < 4294967296 := by rw [hm2]; exact xor_lt32 (by omega) (by omega)
            have hs2 : m2 = sti (j + 1) m := by
              show _ = st (sti j m)
              rw [← Hq, hm2, st, if_pos hodd]
            have Hs2 := Lib.hid hs2
            clear hs2 hm2 hodd Hq
            go_wp2
            go_round
            case rel => exact ⟨j + 1, m2, by omega, l2, by go_num, rfl, Hs2⟩
            case measure => simp [intOf]; omega
          · have t1 : (((q : Int) % 2 == 1) : Bool) = false := by rw [beq_eq_false_iff_ne]; omega
            have hs2 : q / 2 = sti (j + 1) m := by
              show _ = st (sti j m)
              rw [← Hq, st, if_neg hodd]
            have Hs2 := Lib.hid hs2
            clear hs2 hodd Hq
            go_wp2
            go_round
            case rel => exact ⟨j + 1, q / 2, by omega, by omega, by go_num, by go_num, Hs2⟩
            case measure => simp [intOf]; omega
        · have hj' : q = sti 8 m := by
            have : j = 8 := by omega
            rw [← this]; exact Hq
          have Hj := Lib.hid hj'
          clear hj' Hq
          go_wp2
          go_round
          case rel => exact ⟨k + 1, q, by omega, hq, by go_num, rfl, Lib.hid (by rw [Hj.out]; exact Hs.out)⟩
          case measure => simp [intOf]; omega
    · have hfin : n = run (4294967295 - r) (nb s) := by
        have h : n = run (4294967295 - r) ((nb s).take k) := H
        rwa [List.take_of_length_le (by rw [nb_length]; omega)] at h
      have Hf := Lib.hid hfin
      clear hfin H
      go_wp2
      go_ret
      exact ⟨ret_int (by unfold onN; rw [← Hf.out]; omega), rfl⟩

/-! ### four bytes -/
theorem conv4 (w : World) (a b c d : Int) : (convert 29 9 (.slice (some ⟨w.heap.size, 0, none⟩) 4 4)).run Tryd.prog (w.alloc (.cells #[.int .u8 a, .int .u8 b, .int .u8 c, .int .u8 d] 5)) =
    .ok (.string (strOfNums [a, b, c, d])) (w.alloc (.cells #[.int .u8 a, .int .u8 b, .int .u8 c, .int .u8 d] 5)) :=
  run_convert_bytes_arg _ 29 5 Tryd.underlying29 Tryd.underlying5 w.heap.size 0 4 4 [a, b, c, d] rfl (fun i hi => by
    match i, hi with
    | 0, _ => simp [World.cell?_alloc_new]
    | 1, _ => simp [World.cell?_alloc_new]
    | 2, _ => simp [World.cell?_alloc_new]
    | 3, _ => simp [World.cell?_alloc_new]) 9 Tryd.underlying9
/-- a number's four bytes, the lowest first -/
def layS (r : Nat) : ByteArray := strOfNums [(r : Int) % 256, (r : Int) / 256 % 256, (r : Int) / 65536 % 256, (r : Int) / 16777216]
theorem layS_size (r : Nat) : (layS r).size = 4 := by simp [layS, strOfNums_size]
set_option maxRecDepth 100000 in
set_option maxHeartbeats 400000 in
theorem lay_any (r : Nat) (hr : r < 4294967296) (w : World) :
    Calls Tryd.prog 16 #[.int .u32 r] w fun e w' => e = .returned (.string (layS r)) ∧ Below w.heap.size w w' := by
  have hc := conv4
  go_enter Tryd.func16, Tryd.ntmps16
  go_wp2
  go_ret
  exact ⟨rfl, (Below.refl _ _).alloc (Nat.le_refl _) _⟩
set_option maxRecDepth 100000 in
set_option maxHeartbeats 400000 in
theorem refLay_any (r : Nat) (hr : r < 4294967296) (w : World) :
    Calls Tryd.prog 18 #[.int .u32 r] w fun e w' => e = .returned (.string (layS r)) ∧ Below w.heap.size w w' := by
  have hc := conv4
  go_enter Tryd.func18, Tryd.ntmps18
  go_wp2
  go_ret
  exact ⟨rfl, (Below.refl _ _).alloc (Nat.le_refl _) _⟩

theorem ret_int2 {k : IntKind} {a b : Int} {v : Value} (h : a = b) : Ending.returned (.tuple #[.int k a, v]) = .returned (.tuple #[.int k b, v]) := by rw [h]
theorem below_drewN {B : Nat} {a w : World} (h : Below B a w) (n : Nat) : Below B a (w.drewN n) := ⟨h.os, h.tape, h.output, h.size, h.block⟩
/-- the number of four bytes -/
def rdN (s : ByteArray) : Nat := (nb s).getD 0 0 + 256 * (nb s).getD 1 0 + 65536 * (nb s).getD 2 0 + 16777216 * (nb s).getD 3 0
theorem or_add (i x y : Nat) (hy : y < 2 ^ i) (hx : x % 2 ^ i = 0) : y ||| x = y + x := by
  rw [Nat.or_comm, nat_join i x y hx hy, Nat.add_comm]
theorem four_or (a b c d : Nat) (ha : a < 256) (hb : b < 256) (hc : c < 256) (hd : d < 256) :
    bits .or .u32 (bits .or .u32 (bits .or .u32 (a : Int) ((b : Int) * 256)) ((c : Int) * 65536)) ((d : Int) * 16777216) = ((a + 256 * b + 65536 * c + 16777216 * d : Nat) : Int) := by
  have h1 : bits .or .u32 (a : Int) ((b : Int) * 256) = ((a + 256 * b : Nat) : Int) := by
    rw [show (b : Int) * 256 = ((256 * b : Nat) : Int) by omega, u32_or_nat _ _ (by omega) (by omega), or_add 8 _ _ (by omega) (by omega)]
  have h2 : bits .or .u32 ((a + 256 * b : Nat) : Int) ((c : Int) * 65536) = ((a + 256 * b + 65536 * c : Nat) : Int) := by
    rw [show (c : Int) * 65536 = ((65536 * c : Nat) : Int) by omega, u32_or_nat _ _ (by omega) (by omega), or_add 16 _ _ (by omega) (by omega)]
  rw [h1, h2, show (d : Int) * 16777216 = ((16777216 * d : Nat) : Int) by omega, u32_or_nat _ _ (by omega) (by omega), or_add 24 _ _ (by omega) (by omega)]
theorem nb_getD (s : ByteArray) (i : Nat) (h : i < s.size) : (nb s).getD i 0 = (s[i]'h).toNat := by
  have h1 : i < (nb s).length := by rw [nb_length]; exact h
  rw [List.getD_eq_getElem?_getD, List.getElem?_eq_getElem h1, Option.getD_some]
  simp [nb]
  rfl
set_option maxRecDepth 100000 in
set_option maxHeartbeats 400000 in
theorem read_any (s : ByteArray) (h4 : s.size = 4) (w : World) :
    Calls Tryd.prog 17 #[.string s] w fun e w' => e = .returned (.tuple #[.int .u32 (rdN s : Nat), .int .i64 0]) ∧ Below w.heap.size w w' := by
  have g0 := nb_getD s 0 (by omega)
  have g1 := nb_getD s 1 (by omega)
  have g2 := nb_getD s 2 (by omega)
  have g3 := nb_getD s 3 (by omega)
  have b0 := (s[0]'(by omega)).toNat_lt
  have b1 := (s[1]'(by omega)).toNat_lt
  have b2 := (s[2]'(by omega)).toNat_lt
  have b3 := (s[3]'(by omega)).toNat_lt
  have hf := four_or _ _ _ _ b0 b1 b2 b3
  have hr : rdN s = (s[0]'(by omega)).toNat + 256 * (s[1]'(by omega)).toNat + 65536 * (s[2]'(by omega)).toNat + 16777216 * (s[3]'(by omega)).toNat := by
    unfold rdN; rw [g0, g1, g2, g3]
  rw [← hr] at hf
  clear g0 g1 g2 g3 hr
  have Hf := Lib.hid hf
  clear hf
  go_enter Tryd.func17, Tryd.ntmps17
  go_wp2
  go_quiet (fail)
  go_wp2
  go_ret2
  exact ⟨ret_int2 Hf.out, below_drewN (Below.refl _ _) _⟩
theorem read_none (s : ByteArray) (h4 : s.size ≠ 4) (w : World) :
    Calls Tryd.prog 17 #[.string s] w fun e w' => e = .returned (.tuple #[.int .u32 0, .int .i64 4]) ∧ Below w.heap.size w w' := by
  have h5 : ((s.size : Int) != 4) = true := by rw [bne_iff_ne]; omega
  go_enter Tryd.func17, Tryd.ntmps17
  go_wp2
  go_ret2
  exact ⟨rfl, Below.refl _ _⟩

/-! ### the plain law of the four bytes -/
theorem nb_layS (n : Nat) : nb (layS n) = [n % 256, n / 256 % 256, n / 65536 % 256, n / 16777216 % 256] := by
  unfold nb layS
  rw [strOfNums_data]
  simp only [List.map_cons, List.map_nil, UInt8.toNat_ofNat']
  refine congr (congrArg _ ?_) (congr (congrArg _ ?_) (congr (congrArg _ ?_) (congr (congrArg _ ?_) rfl))) <;> omega
theorem rdN_layS (n : Nat) (h : n < 4294967296) : rdN (layS n) = n := by
  unfold rdN; rw [nb_layS]
  simp only [List.getD_eq_getElem?_getD, List.getElem?_cons_zero, List.getElem?_cons_succ, Option.getD_some]
  omega
theorem nb_inj {s t : ByteArray} (h : nb s = nb t) : s = t := by
  have h2 : s.data.toList = t.data.toList := by
    unfold nb at h
    exact List.map_inj_right (fun a b hab => UInt8.toNat_inj.1 hab) |>.1 h
  cases s; cases t
  simp only [ByteArray.mk.injEq]
  exact Array.toList_inj.1 h2
theorem rdN_lt (s : ByteArray) : rdN s < 4294967296 := by
  have hx : ∀ i, (nb s).getD i 0 < 256 := fun i => by
    rcases Nat.lt_or_ge i (nb s).length with h | h
    · rw [List.getD_eq_getElem?_getD, List.getElem?_eq_getElem h]; exact nb_lt s _ (List.getElem_mem h)
    · rw [List.getD_eq_getElem?_getD, List.getElem?_eq_none h]; decide
  have := hx 0; have := hx 1; have := hx 2; have := hx 3
  unfold rdN; omega
theorem layS_rdN (s : ByteArray) (h4 : s.size = 4) : layS (rdN s) = s := by
  apply nb_inj
  rw [nb_layS]
  have hl : (nb s).length = 4 := by rw [nb_length, h4]
  have hb := nb_lt s
  unfold rdN
  match hq : nb s, hl with
  | [a, b, c, d], _ =>
    rw [hq] at hb
    have ha := hb a (by simp); have hb' := hb b (by simp); have hc := hb c (by simp); have hd := hb d (by simp)
    simp only [List.getD_eq_getElem?_getD, List.getElem?_cons_zero, List.getElem?_cons_succ, Option.getD_some]
    refine congr (congrArg _ ?_) (congr (congrArg _ ?_) (congr (congrArg _ ?_) (congr (congrArg _ ?_) rfl))) <;> omega
end Go.Proofs.YtdmjbdecemajpaaDoor
