/- The reader of bytes: number, and what lists are read from. -/
import Derived.Test.YtolndeolehkjoaaRd3
namespace Go.Proofs.Ytolndeolehkjoaa
set_option linter.unusedVariables false
set_option linter.unusedSimpArgs false
open Go.RowKit CodP
set_option maxRecDepth 100000 in
set_option maxHeartbeats 1000000 in
theorem number_any (rb : Nat) (s : ByteArray) (st : RSt) (w : World) (h : RdAt w rb s st) :
    Calls Try.prog 75 #[.pointer (some ⟨rb, 0, none⟩)] w fun x w' => x = .returned (.int .i64 (numI s st).1) ∧ RdAt w' rb s (numI s st).2 ∧ w.grownBy w' (some rb) := by
  have ht := take_any rb s st 8 (by decide) w h
  have hz := takeI_size s 8 st
  unfold numI
  obtain ⟨⟨x, st1⟩, hx⟩ : ∃ y, y = takeI s 8 st := ⟨_, rfl⟩
  rw [← hx] at ht hz ⊢
  simp only at hz
  have HT := Lib.hid ht
  clear ht h hx
  by_cases h0 : x.size = 0
  · obtain rfl := size0.1 h0
    have hk : numK (⟨#[]⟩, st1) = (0, st1) := if_pos rfl
    have HK := Lib.hid hk
    clear hk h0 hz
    go_enter Try.func75, Try.ntmps75
    go_wp2_with (fail)
    refine HT.out.mono ?_
    rintro e w1 ⟨rfl, h1, g1⟩
    have H1 := Lib.hid h1
    have G1 := Lib.hid g1
    clear h1 g1
    go_wp2
    go_ret
    exact ⟨by rw [HK.out]; rfl, by rw [HK.out]; exact H1.out, G1.out⟩
  · have hne := not_empty h0
    have hno := numof_any x (by omega)
    obtain ⟨⟨n, f⟩, hnf⟩ : ∃ y, y = numOf x := ⟨_, rfl⟩
    rw [← hnf] at hno
    have hk : numK (x, st1) = if f ≠ 0 ∨ n > 1099511627776 then (n, failI 4 st1) else (n, st1) := by
      simp only [numK]; rw [if_neg h0, ← hnf]
    have HNO := Lib.hid hno
    by_cases hf : f ≠ 0 ∨ n > 1099511627776
    · rw [if_pos hf] at hk
      have HK := Lib.hid hk
      have hcase : (f != 0) = true ∨ f = 0 ∧ 1099511627776 < n := by
        by_cases h1 : f = 0
        · exact .inr ⟨h1, by rcases hf with hf | hf; exact absurd h1 hf; exact hf⟩
        · exact .inl (by simpa using h1)
      clear hk hf hno hnf h0 hz
      rcases hcase with h1 | ⟨rfl, h1⟩
      all_goals
        go_enter Try.func75, Try.ntmps75
        go_wp2_with (fail)
        refine HT.out.mono ?_
        rintro e w1 ⟨rfl, h1', g1⟩
        have H1 := Lib.hid h1'
        have G1 := Lib.hid g1
        clear h1' g1
        go_wp2_with (fail)
        refine (HNO.out _).mono ?_
        rintro e w2 ⟨rfl, rfl⟩
        go_wp2_with (fail)
        refine (fail_any rb s st1 4 _ H1.out).mono ?_
        rintro e w3 ⟨rfl, h2, g2⟩
        have H2 := Lib.hid h2
        have G2 := Lib.hid g2
        clear h2 g2
        go_wp2
        go_ret
        exact ⟨by rw [HK.out]; rfl, by rw [HK.out]; exact H2.out, G1.out.trans G2.out⟩
    · rw [if_neg hf] at hk
      obtain ⟨rfl, h1⟩ : f = 0 ∧ n ≤ 1099511627776 := ⟨Decidable.not_not.1 (fun h => hf (.inl h)), by
        rcases Int.lt_or_le 1099511627776 n with h | h
        · exact absurd (Or.inr h) hf
        · exact h⟩
      have HK := Lib.hid hk
      clear hk hf hno hnf h0 hz
      go_enter Try.func75, Try.ntmps75
      go_wp2_with (fail)
      refine HT.out.mono ?_
      rintro e w1 ⟨rfl, h1', g1⟩
      have H1 := Lib.hid h1'
      have G1 := Lib.hid g1
      clear h1' g1
      go_wp2_with (fail)
      refine (HNO.out _).mono ?_
      rintro e w2 ⟨rfl, rfl⟩
      go_wp2
      go_ret
      exact ⟨by rw [HK.out]; rfl, by rw [HK.out]; exact H1.out, G1.out⟩
/-- a variable that holds where the reader lies -/
structure Box (w : World) (xb rb : Nat) : Prop where
  is : w.heap[xb]? = some (.cells #[.pointer (some ⟨rb, 0, none⟩)] 80 (0, 0))
  ne : xb ≠ rb
theorem Box.cell {w : World} {xb rb : Nat} (h : Box w xb rb) : w.cell? ⟨xb, 0, none⟩ = some (.pointer (some ⟨rb, 0, none⟩)) := by simp [World.cell?, h.is]
theorem Box.lt {w : World} {xb rb : Nat} (h : Box w xb rb) : xb < w.heap.size := (Array.getElem?_eq_some_iff.1 h.is).1
theorem Box.grown {w w1 : World} {xb rb : Nat} (h : Box w xb rb) (hg : w.grownBy w1 (some rb)) : Box w1 xb rb :=
  ⟨(hg.block xb h.lt (by intro e; injection e with e; exact h.ne e)).trans h.is, h.ne⟩
set_option maxRecDepth 100000 in
set_option maxHeartbeats 1000000 in
theorem oneint_any (rb xb : Nat) (s : ByteArray) (st : RSt) (w : World) (h : RdAt w rb s st) (hx : Box w xb rb) :
    Calls Try.prog 80 #[.pointer (some ⟨xb, 0, none⟩)] w fun x w' => x = .returned (.int .i64 (smallI s 255 st).1) ∧ RdAt w' rb s (smallI s 255 st).2 ∧ w.grownBy w' (some rb) := by
  have hs := small_any rb s st 255 w h
  have cx := hx.cell
  have HS := Lib.hid hs
  clear hs h hx
  go_enter Try.func80, Try.ntmps80
  go_wp2_with (fail)
  refine HS.out.mono ?_
  rintro e w1 ⟨rfl, h1, g1⟩
  have H1 := Lib.hid h1
  have G1 := Lib.hid g1
  clear h1 g1
  go_wp2
  go_ret
  exact ⟨rfl, H1.out, G1.out⟩
end Go.Proofs.Ytolndeolehkjoaa
