/- The reference's bytes: a text, texts. -/
import Derived.Test.YtolndeolehkjoaaSh4
import Derived.Test.YtolndeolehkjoaaNum1
import Derived.Test.YtolndeolehkjoaaWr3
namespace Go.Proofs.Ytolndeolehkjoaa
set_option linter.unusedVariables false
set_option linter.unusedSimpArgs false
open Go.RowKit CodP
def bB (n : Int) : ByteArray := ofBL (eB n)
def bT (s : ByteArray) : ByteArray := bB s.size ++ s
theorem BL_bB (n : Int) : BL (bB n) = eB n := BL_ofBL _
theorem BL_bT (s : ByteArray) : BL (bT s) = eT s := by rw [bT, BL_append, BL_bB]; rfl
theorem bB_size (n : Int) : (bB n).size = 1 := by rw [← BL_length, BL_bB]; rfl
theorem bT_size (s : ByteArray) : (bT s).size = s.size + 1 := by rw [← BL_length, BL_bT, eT_len]
theorem conv1 (n : Int) (V : World) (b : Nat) (hb : V.cell? ⟨b, 0, none⟩ = some (.int .u8 n)) :
    (convert 67 9 (.slice (some ⟨b, 0, none⟩) 1 1)).run Try.prog V = .ok (.string (bB n)) V := by
  have := run_convert_bytes_arg (P := Try.prog) (w := V) 67 5 Try.underlying67 Try.underlying5 b 0 1 1 [n] rfl (fun i hi => by
    obtain rfl : i = 0 := by omega
    exact hb) 9 Try.underlying9
  rw [this]
  congr 2
theorem cell_new1 (w : World) (n : Int) : (w.alloc (.cells #[.int .u8 n] 5)).cell? ⟨w.heap.size, 0, none⟩ = some (.int .u8 n) := by
  have := G.heap_new w (.cells #[.int .u8 n] 5)
  simp only [World.cell?, this]
  rfl
set_option maxRecDepth 100000 in
set_option maxHeartbeats 2000000 in
theorem rtext_any (s : ByteArray) (hs : s.size ≤ 200) (w : World) :
    Calls Try.prog 59 #[.string s] w fun e w' => e = .returned (.string (bT s)) ∧ Below w.heap.size w w' := by
  have hcv := conv1 s.size _ _ (cell_new1 w s.size)
  have hz : (bB s.size).size = 1 := bB_size _
  go_enter Try.func59, Try.ntmps59
  go_wp2
  go_ret
  exact ⟨rfl, bel_alloc _ _⟩
set_option maxRecDepth 100000 in
set_option maxHeartbeats 2000000 in
theorem rtexts15_any (L : List ByteArray) (A : Option Addr) (c : Nat) (hL : L.length ≤ 200) (hl : ∀ s ∈ L, s.size ≤ 200) (w : World) (hr : RowR w A (L.flatMap cS)) :
    Calls Try.prog 83 #[.slice A L.length c] w fun e w' => e = .returned (.string (ofBL (eB L.length ++ L.flatMap eT))) ∧ Below w.heap.size w w' := by
  have hcv := conv1 L.length _ _ (cell_new1 w L.length)
  have HR := Lib.hid hr
  have HL := Lib.hid hl
  clear hr hl
  go_enter Try.func83, Try.ntmps83
  go_wp2
  go_loopw [3, 4] (fun s i wr => ∃ k : Nat, ∃ b : ByteArray, k ≤ L.length ∧ i = .int .i64 k ∧ s = .string b ∧ b.size ≤ 201 * k + 1 ∧ Hid (b = ofBL (eB L.length ++ (L.take k).flatMap eT) ∧ Below w.heap.size w wr)) (fun _ i _ => L.length - (intOf i).toNat)
  case atStart => exact ⟨0, _, Nat.zero_le _, rfl, rfl, by rw [bB_size]; omega, Lib.hid ⟨by simp [bB], bel_alloc _ _⟩⟩
  case round =>
    obtain ⟨k, b, hk, rfl, rfl, hbz, H⟩ := hrel
    by_cases hkn : k < L.length
    · obtain ⟨x, hx⟩ : ∃ x, L[k]? = some x := ⟨_, List.getElem?_eq_getElem hkn⟩
      have h1 := flat_at cS 1 (fun _ => rfl) L k x hx 0 (by omega)
      obtain ⟨ad, hA, e1⟩ := HR.out.below H.out.2 _ _ h1
      simp only [Nat.mul_one, Nat.add_zero] at e1
      subst hA
      have HX := Lib.hid hx
      have HC := Lib.hid (rtext_any x (HL.out x (List.mem_of_getElem? hx)) wr)
      have hx2 : (bT x).size ≤ 201 := by rw [bT_size]; have := HL.out x (List.mem_of_getElem? hx); omega
      clear h1 hx hcv
      go_wp2_with (go_at_call 59; refine HC.out.mono ?_; rintro e w2 ⟨rfl, hb2⟩)
      go_roundw
      case rel =>
        refine ⟨k + 1, _, by omega, by go_num, rfl, by rw [ByteArray.size_append]; omega, Lib.hid ⟨?_, H.out.2.trans (belowLe H.out.2.size hb2)⟩⟩
        apply BL_inj
        rw [BL_append, BL_bT, H.out.1, BL_ofBL, BL_ofBL, List.take_add_one, HX.out]
        simp [List.flatMap_append]
      case measure => simp [intOf]; omega
    · obtain rfl : k = L.length := by omega
      clear hcv
      go_wp2
      go_ret
      exact ⟨by rw [H.out.1, List.take_length]; rfl, H.out.2⟩
end Go.Proofs.Ytolndeolehkjoaa
