/- The reference's number: eight bytes, the highest first. -/
import Derived.Test.YtolndeolehkjoaaAw1c
namespace Go.Proofs.Ytolndeolehkjoaa
set_option linter.unusedVariables false
set_option linter.unusedSimpArgs false
open Go.RowKit CodP
def cB (x : Int) : List Value := [.int .u8 x]
set_option maxRecDepth 100000 in
theorem one_app (w : World) (a : Int) (L : List Int) (A : Option Addr) (c : Nat) (hL : L.length ≤ 1000000) (hr : RowR w A (L.flatMap cB)) :
    ∃ g c' w1, (Builtin.append_ #[67, 67] 67 #[.slice (some ⟨w.heap.size, 0, none⟩) 1 1, .slice A L.length c]).run Try.prog (w.alloc (.cells #[.int .u8 a] 5)) = .ok (.slice (some ⟨g, 0, none⟩) (1 + L.length) c') w1 ∧
      RowR w1 (some ⟨g, 0, none⟩) ((a :: L).flatMap cB) ∧ Below w.heap.size w w1 := by
  obtain ⟨i0, hi, hzz⟩ := Option.map_eq_some_iff.1 B.infoByte
  simp only [Prod.mk.injEq] at hzz
  obtain ⟨hz0, hz1, hz2⟩ := hzz
  have hr1 := hr.below (bel_alloc w (.cells #[.int .u8 a] 5))
  have own : (w.alloc (.cells #[.int .u8 a] 5)).ownsRow w.heap.size 5 1 (.slice (some ⟨w.heap.size, 0, none⟩) 1 1) 1 [.int .u8 a] :=
    ⟨rfl, .inr ⟨w.heap.size, 1, _, rfl, Nat.le_refl _, G.heap_new _ _, Nat.le_refl _, by decide, rfl, rfl⟩⟩
  have rows : ∀ {W : World} {g m : Nat} {c' : Nat} {xs : List Value}, W.ownsRow w.heap.size 5 1 (.slice (some ⟨g, 0, none⟩) m c') m xs → RowR W (some ⟨g, 0, none⟩) xs := fun {W g m c' xs} h j u hj => ⟨_, rfl, h.cells (g := g) rfl j u hj⟩
  cases L with
  | nil =>
    refine ⟨w.heap.size, 1, w.alloc (.cells #[.int .u8 a] 5), ?_, ?_, bel_alloc _ _⟩
    · cases A <;> simp [Builtin.append_, run_underlying Try.underlying67, sizeOf, typeInfo, hi, storeCells, Builtin.lenOf, Builtin.firstCells, loadCells, loadCellsFrom]
    · exact rows own
  | cons x L =>
    obtain ⟨ad, rfl, _⟩ := hr 0 (.int .u8 x) rfl
    obtain ⟨v', w', hrun, h2, h3, _, _⟩ := run_append_own_at (P := Try.prog) (w := w.alloc (.cells #[.int .u8 a] 5)) w.heap.size 67 67 5 i0 (.int .u8 0) 1 1 Try.underlying67 hi hz0 hz1 hz2 rfl (by decide) _ 1 _ own ad (x :: L).length c ((x :: L).flatMap cB)
      (by rw [flat_len cB 1 (fun _ => rfl)]) (fun j u hj => by obtain ⟨ad', he, hc⟩ := hr1 j u hj; injection he with he; subst he; exact hc)
      (fun u hu => by obtain ⟨y, _, hy⟩ := List.mem_flatMap.1 hu; simp only [cB, List.mem_singleton] at hy; subst hy; rfl) (by simp only [List.length_cons] at *; unfold maxLen; omega) (by simp only [List.length_cons] at *; omega) (by simp)
    obtain ⟨g, c', rfl⟩ : ∃ g c', v' = .slice (some ⟨g, 0, none⟩) (1 + (x :: L).length) c' := by
      rcases h2.2 with ⟨_, h0⟩ | ⟨g, c', cur, hv, _⟩
      · simp only [List.length_cons] at h0; omega
      · exact ⟨g, c', hv⟩
    refine ⟨g, c', w', hrun, rows h2, ?_⟩
    exact Below.grown (bel_alloc _ _) h3 (by simp) (fun k hk => by have := G.owns_base own k hk; exact this)
/-- the lowest k bytes, the highest first -/
def bl (n : Nat) : Nat → List Int
  | 0 => []
  | k + 1 => ((n / 256 ^ k : Nat) : Int) % 256 :: bl n k
theorem bl_len (n k : Nat) : (bl n k).length = k := by
  induction k with
  | zero => rfl
  | succ k ih => simp [bl, ih]
theorem bl8 (n : Nat) (hn : n ≤ 9223372036854775807) : strOfNums (bl n 8) = num8 n := by
  rw [← nums8]
  simp only [bl, Nat.pow_zero, Nat.div_one, Int.natCast_ediv]
  congr 1
  simp only [List.cons.injEq, and_true]
  omega
set_option maxRecDepth 100000 in
set_option maxHeartbeats 2000000 in
theorem rnumber_any (n : Nat) (hn : n ≤ 9223372036854775807) (w : World) :
    Calls Try.prog 14 #[.int .i64 n] w fun e w' => e = .returned (.string (num8 n)) ∧ Below w.heap.size w w' := by
  go_enter Try.func14, Try.ntmps14
  go_wp2
  go_loopw [0, 3, 4] (fun nv bv i wr => ∃ (k : Nat) (A : Option Addr) (c : Nat), k ≤ 8 ∧ i = .int .i64 k ∧ nv = .int .i64 ((n / 256 ^ k : Nat) : Int) ∧ bv = .slice A k c ∧ Hid (RowR wr A ((bl n k).flatMap cB) ∧ Below w.heap.size w wr ∧ (k = 0 ∨ ∃ g, A = some ⟨g, 0, none⟩))) (fun _ _ i _ => 8 - (intOf i).toNat)
  case atStart => exact ⟨0, _, _, by omega, rfl, by simp, rfl, Lib.hid ⟨RowR.nil _ _, bel_alloc _ _, .inl rfl⟩⟩
  case round =>
    obtain ⟨k, A, c, hk, rfl, rfl, rfl, H⟩ := hrel
    have hm : n / 256 ^ k ≤ 9223372036854775807 := Nat.le_trans (Nat.div_le_self _ _) hn
    have hnext : n / 256 ^ (k + 1) = n / 256 ^ k / 256 := by rw [Nat.pow_succ, Nat.div_div_eq_div_mul]
    have hbl : bl n (k + 1) = ((n / 256 ^ k : Nat) : Int) % 256 :: bl n k := rfl
    obtain ⟨m, hmm⟩ : ∃ m, m = n / 256 ^ k := ⟨_, rfl⟩
    rw [← hmm] at hm hnext hbl ⊢
    have HN := Lib.hid hnext
    have HBL := Lib.hid hbl
    clear hnext hbl hmm
    by_cases hk8 : k < 8
    · have happ := one_app wr ((m : Int) % 256) (bl n k) A c (by rw [bl_len]; omega) H.out.1
      rw [bl_len] at happ
      obtain ⟨g, c', w1, hrun, hrow, hb⟩ := happ
      have M1 := Lib.hid hrun
      have ROW := Lib.hid hrow
      have HB := Lib.hid (H.out.2.1.trans (belowLe H.out.2.1.size hb))
      clear hrun hrow hb
      go_wp2_with (at_builtin; refine wpList_append_run rfl (.tmp 13) (.tmp 14) 67 rfl rfl rfl M1.out ?_)
      go_roundw
      case rel => exact ⟨k + 1, some ⟨g, 0, none⟩, c', by omega, by go_num, by rw [HN.out]; exact congrArg (Value.int .i64) (by omega), by rw [Nat.add_comm], Lib.hid ⟨by rw [HBL.out]; exact ROW.out, HB.out, .inr ⟨g, rfl⟩⟩⟩
      case measure => simp [intOf]; omega
    · obtain rfl : k = 8 := by omega
      obtain ⟨g, hA⟩ : ∃ g, A = some ⟨g, 0, none⟩ := by
        rcases H.out.2.2 with h | h
        · cases h
        · exact h
      subst hA
      have hcv : (convert 67 9 (.slice (some ⟨g, 0, none⟩) 8 c)).run Try.prog wr = .ok (.string (num8 n)) wr := by
        rw [← bl8 n hn]
        refine run_convert_bytes_arg _ 67 5 Try.underlying67 Try.underlying5 g 0 8 c (bl n 8) (bl_len n 8) (fun i hi => ?_) 9 Try.underlying9
        have hx : (bl n 8)[i]? = some ((bl n 8).getD i 0) := by
          rw [List.getD_eq_getElem?_getD, List.getElem?_eq_getElem (by rw [bl_len]; exact hi)]; rfl
        obtain ⟨ad, h1, h2⟩ := H.out.1 _ _ (flat_at cB 1 (fun _ => rfl) (bl n 8) i _ hx 0 (by omega))
        injection h1 with h1
        subst h1
        rw [G.add_plain] at h2
        simpa using h2
      go_wp2
      go_ret
      exact ⟨rfl, H.out.2.1⟩
end Go.Proofs.Ytolndeolehkjoaa
