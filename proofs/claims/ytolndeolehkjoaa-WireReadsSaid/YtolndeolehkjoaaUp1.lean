/- The object of bytes. -/
import Derived.Test.YtolndeolehkjoaaRd8
namespace Go.Proofs.Ytolndeolehkjoaa
set_option linter.unusedVariables false
set_option linter.unusedSimpArgs false
open Go.RowKit CodP
set_option maxRecDepth 100000 in
set_option maxHeartbeats 4000000 in
theorem unpack_any (s : ByteArray) (hs : s.size ≤ 1000000) (w : World) :
    Calls Try.prog 20 #[.string s] w fun x w' => ∃ f l c p i, x = .returned (.tuple #[.agg (oc (unpackS s).1 f l c p i), .int .i64 (unpackS s).2]) ∧ ObOwn w' w.heap.size (unpackS s).1 f l c p i ∧ Below w.heap.size w w' := by
  obtain ⟨w1, hw1⟩ : ∃ w1, w1 = w.alloc (.cells #[.int .i64 0, .string ⟨#[]⟩, .int .i64 0, .int .i64 0, .bool false, .slice none 0 0, .slice none 0 0, .slice none 0 0, .string ⟨#[]⟩, .int .i64 0, .int .i64 0, .slice none 0 0, .slice none 0 0, .string ⟨#[]⟩, .string ⟨#[]⟩, .int .i64 0, .string ⟨#[]⟩, .string ⟨#[]⟩, .string ⟨#[]⟩] 32) := ⟨_, rfl⟩
  have hs1 : w1.heap.size = w.heap.size + 1 := by rw [hw1]; simp
  have b1 : Below w.heap.size w w1 := by rw [hw1]; exact bel_alloc _ _
  have p1 : w1.heap[w.heap.size]? = some (.cells #[.int .i64 0, .string ⟨#[]⟩, .int .i64 0, .int .i64 0, .bool false, .slice none 0 0, .slice none 0 0, .slice none 0 0, .string ⟨#[]⟩, .int .i64 0, .int .i64 0, .slice none 0 0, .slice none 0 0, .string ⟨#[]⟩, .string ⟨#[]⟩, .int .i64 0, .string ⟨#[]⟩, .string ⟨#[]⟩, .string ⟨#[]⟩] 32 (0, 0)) := by rw [hw1]; exact G.heap_new _ _
  have hf := first_any s hs w1
  have hU : unpackS s = if (firstS s).2.2 ≠ 0 ∨ (firstS s).2.1 ≠ s.size then (zeroOb, 4) else ((firstS s).1, 0) := rfl
  obtain ⟨⟨o, n, e1⟩, hx⟩ : ∃ y, y = firstS s := ⟨_, rfl⟩
  rw [← hx] at hf hU
  obtain ⟨x, hxx⟩ : ∃ x, x = w.heap.size := ⟨_, rfl⟩
  rw [← hxx] at p1
  have HU := Lib.hid hU
  have HFI := Lib.hid hf
  have P1 := Lib.hid p1
  have B1 := Lib.hid b1
  have HW := Lib.hid hw1
  have HS := Lib.hid hs1
  have HX := Lib.hid hxx
  clear hf hU hx p1 b1 hw1 hs1
  go_enter Try.func20, Try.ntmps20
  go_upto_region 1 with (fail)
  rw [← HW.out, ← hxx]
  clear hxx
  go_wp2_with (fail)
  refine HFI.out.mono ?_
  rintro e w2 ⟨f, l, c, p, i, rfl, ow, hb2⟩
  have b3 := bel_allocRow w2 #[.int .i64 0, .string ⟨#[]⟩, .int .i64 0, .int .i64 0, .bool false, .slice none 0 0, .slice none 0 0, .slice none 0 0, .string ⟨#[]⟩, .int .i64 0, .int .i64 0, .slice none 0 0, .slice none 0 0, .string ⟨#[]⟩, .string ⟨#[]⟩, .int .i64 0, .string ⟨#[]⟩, .string ⟨#[]⟩, .string ⟨#[]⟩] (oc o f l c p i) 32
  obtain ⟨w3, hw3⟩ : ∃ w3, w3 = (w2.alloc (.cells #[.int .i64 0, .string ⟨#[]⟩, .int .i64 0, .int .i64 0, .bool false, .slice none 0 0, .slice none 0 0, .slice none 0 0, .string ⟨#[]⟩, .int .i64 0, .int .i64 0, .slice none 0 0, .slice none 0 0, .string ⟨#[]⟩, .string ⟨#[]⟩, .int .i64 0, .string ⟨#[]⟩, .string ⟨#[]⟩, .string ⟨#[]⟩] 32)).setRow w2.heap.size (oc o f l c p i) := ⟨_, rfl⟩
  rw [← hw3] at b3
  obtain ⟨tb, htb⟩ : ∃ tb, tb = w2.heap.size := ⟨_, rfl⟩
  have t3 : w3.heap[tb]? = some (.cells (oc o f l c p i) 32 (0, 0)) := by rw [hw3, htb]; exact setRow_heap _ _ _ _ _ _ (G.heap_new _ _)
  have p3 : w3.heap[x]? = some (.cells #[.int .i64 0, .string ⟨#[]⟩, .int .i64 0, .int .i64 0, .bool false, .slice none 0 0, .slice none 0 0, .slice none 0 0, .string ⟨#[]⟩, .int .i64 0, .int .i64 0, .slice none 0 0, .slice none 0 0, .string ⟨#[]⟩, .string ⟨#[]⟩, .int .i64 0, .string ⟨#[]⟩, .string ⟨#[]⟩, .string ⟨#[]⟩] 32 (0, 0)) := ((G.bthen hb2 b3).block x (Array.getElem?_eq_some_iff.1 P1.out).1).trans P1.out
  have O3 := Lib.hid (show ObOwn w3 (w.heap.size + 1) o f l c p i by rw [HS.out] at ow; exact ow.below b3)
  have K3 := Lib.hid (show Below w.heap.size w w3 from B1.out.trans ⟨(G.bthen hb2 b3).os, (G.bthen hb2 b3).tape, (G.bthen hb2 b3).output, (G.bthen hb2 b3).size, fun j hj => (G.bthen hb2 b3).block j (by have := HS.out; omega)⟩)
  have T3 := Lib.hid t3
  have P3 := Lib.hid p3
  dsimp only
  rename_i hK
  refine hK _ _ ?_
  iterate 15 (first | go_values | go_skip | go_guarded | go_step | go_upon)
  refine wpList_store_row rfl 32 (.tmp 4) (.tmp 10) rfl _ (oc o f l c p i) rfl rfl 32 _ (G.heap_new _ _) size32 rfl (oc_one o f l c p i) ?_
  rw [← hw3, ← htb]
  clear hK hw3 htb b3 t3 p3 ow hb2
  by_cases h0 : e1 ≠ 0 ∨ n ≠ s.size
  · have hu : unpackS s = (zeroOb, 4) := by rw [HU.out]; exact if_pos h0
    have HU2 := Lib.hid hu
    have hcase : (e1 != 0) = true ∨ (e1 != 0) = false ∧ ((n : Int) != s.size) = true := by
      by_cases h : e1 = 0
      · refine .inr ⟨by simp [h], ?_⟩
        rcases h0 with h1 | h1
        · exact absurd h h1
        · simp; omega
      · exact .inl (by simpa using h)
    clear hu h0
    rcases hcase with h1 | ⟨h1, h2⟩
    all_goals
      go_wp2_with (refine wpList_store_row rfl 32 (.tmp 2) (.tmp 21) rfl x (oc zeroOb Sl0 Sl0 Sl0 Sl0 Sl0) rfl rfl 32 _ P3.out size32 rfl (oc_one zeroOb Sl0 Sl0 Sl0 Sl0 Sl0) ?_)
      refine bodyPost_ret (results_ct rfl _ _ x 32 (oc zeroOb Sl0 Sl0 Sl0 Sl0 Sl0) (0, 0) _ rfl (setRow_heap _ _ _ _ _ _ P3.out) Try.underlying32 rfl size32) rfl ⟨Sl0, Sl0, Sl0, Sl0, Sl0, ?_, ?_, ?_⟩
      · rw [HU2.out]; rfl
      · rw [HU2.out]; exact ObOwn.nil _ _ 0
      · exact K3.out.trans ⟨rfl, rfl, rfl, by rw [size_setRow]; exact Nat.le_refl _, fun j hj => setRow_other _ _ _ _ (by rw [HX.out]; omega)⟩
  · have h1 : e1 = 0 ∧ n = s.size := by
      refine ⟨Decidable.not_not.1 fun h => h0 (.inl h), Decidable.not_not.1 fun h => h0 (.inr h)⟩
    obtain ⟨rfl, hn⟩ := h1
    have hu : unpackS s = (o, 0) := by rw [HU.out]; exact if_neg h0
    have HU2 := Lib.hid hu
    have h2 : ((n : Int) != s.size) = false := by simp [hn]
    clear hu h0 hn
    go_wp2_with (first
      | (refine wpList_load_row rfl 32 (.tmp 4) rfl tb rfl 32 _ (0, 0) _ T3.out Try.underlying32 rfl size32 ?_)
      | (refine wpList_store_row rfl 32 (.tmp 2) (.tmp 22) rfl x (oc o f l c p i) rfl rfl 32 _ P3.out size32 rfl (oc_one o f l c p i) ?_))
    refine bodyPost_ret (results_ct rfl _ _ x 32 (oc o f l c p i) (0, 0) _ rfl (setRow_heap _ _ _ _ _ _ P3.out) Try.underlying32 rfl size32) rfl ⟨f, l, c, p, i, ?_, ?_, ?_⟩
    · rw [HU2.out]; rfl
    · rw [HU2.out]; exact (ObOwn.row O3.out (by rw [HX.out]; omega)).mono (by omega)
    · exact K3.out.trans ⟨rfl, rfl, rfl, by rw [size_setRow]; exact Nat.le_refl _, fun j hj => setRow_other _ _ _ _ (by rw [HX.out]; omega)⟩
end Go.Proofs.Ytolndeolehkjoaa
