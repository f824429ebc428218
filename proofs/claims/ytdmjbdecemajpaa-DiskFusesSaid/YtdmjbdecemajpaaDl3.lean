/- The walk of Does. -/
import Derived.Test.YtdmjbdecemajpaaDl2
namespace Go.Proofs.Ytdmjbdecemajpaa.D
set_option linter.unusedVariables false
set_option linter.unusedSimpArgs false
open Go.RowKit
theorem Pk.below {db m : Nat} {w w1 : World} {A : Option Addr} {picks : List Int} (h : Pk db m w A picks) (hb : Below w.heap.size w w1) : Pk db m w1 A picks := h.fr (Fr.of_below hb)
theorem kinds (k : Int) : k = 1 ∨ k = 2 ∨ k = 3 ∨ k = 4 ∨ k = 5 ∨ k = 6 ∨ k = 7 ∨ (k ≠ 1 ∧ k ≠ 2 ∧ k ≠ 3 ∧ k ≠ 4 ∧ k ≠ 5 ∧ k ≠ 6 ∧ k ≠ 7) := by omega
set_option maxRecDepth 100000 in
set_option maxHeartbeats 4000000 in
theorem does_any (B db m : Nat) (d : DS) (x : Ac) (w : World) (h : DInv B db m d w) (hB : Bd d) (hn : M.Nodup d.files) (hr : ∀ p ∈ d.files, 1 ≤ p.1 ∧ p.1 ≤ 1000000)
    (hp : Pk db m w x.A x.p.picks) (hpl : x.p.picks.length ≤ 1000000) (hpc : x.p.picks.length ≤ x.c) (hs : x.p.s.size ≤ 1000000) :
    Calls Try.prog 9 #[.pointer (some ⟨db, 0, none⟩), av x] w fun e w' => e = .returned (.int .i64 (doesE d x.p)) ∧ DStep B db m w (doesS d x.p) w' := by
  obtain ⟨⟨kind, no, n, s, picks⟩, A, c⟩ := x
  have HB1 := Lib.hid (bel_allocT w (.cells #[.int .i64 kind, .int .i64 no, .int .i64 n, .string s, .slice A picks.length c] 28))
  have HI := Lib.hid (h.below HB1.out)
  have HP := Lib.hid (Pk.below hp HB1.out)
  have HBd := Lib.hid hB
  have HF := Lib.hid (Fr.of_below (F := Foot db m) HB1.out)
  have hlt := h.lt
  clear h hp hB
  rcases kinds kind with rfl | rfl | rfl | rfl | rfl | rfl | rfl | ⟨h1, h2, h3, h4, h5, h6, h7⟩
  · have HC := Lib.hid (append_any B db m d no s _ HI.out HBd.out hs)
    clear hn hr hpl hpc hs HP
    unfold av
    go_enter Try.func9, Try.ntmps9
    go_wp2_with (go_at_call 19; refine HC.out.mono ?_; rintro e w2 ⟨rfl, hst⟩)
    go_ret
    exact ⟨rfl, DStep.from' HF.out hst⟩
  · have HC := Lib.hid (sync_any B db m d no _ HI.out HBd.out)
    clear hn hr hpl hpc hs HP
    unfold av
    go_enter Try.func9, Try.ntmps9
    go_wp2_with (go_at_call 22; refine HC.out.mono ?_; rintro e w2 ⟨rfl, hst⟩)
    go_ret
    exact ⟨rfl, DStep.from' HF.out hst⟩
  · have HC := Lib.hid (trim_any B db m d no n _ HI.out HBd.out)
    clear hn hr hpl hpc hs HP
    unfold av
    go_enter Try.func9, Try.ntmps9
    go_wp2_with (go_at_call 23; refine HC.out.mono ?_; rintro e w2 ⟨rfl, hst⟩)
    go_ret
    exact ⟨rfl, DStep.from' HF.out hst⟩
  · have HC := Lib.hid (remove_any B db m d no _ HI.out HBd.out)
    clear hn hr hpl hpc hs HP
    unfold av
    go_enter Try.func9, Try.ntmps9
    go_wp2_with (go_at_call 24; refine HC.out.mono ?_; rintro e w2 ⟨rfl, hst⟩)
    go_ret
    exact ⟨rfl, DStep.from' HF.out hst⟩
  · have HC := Lib.hid (fuse_any B db m d n _ HI.out)
    clear hn hr hpl hpc hs HP
    unfold av
    go_enter Try.func9, Try.ntmps9
    go_wp2_with (go_at_call 13; refine HC.out.mono ?_; rintro e w2 ⟨rfl, hst⟩)
    go_ret
    exact ⟨rfl, DStep.from' HF.out hst⟩
  · have HC := Lib.hid (cut_any B db m d _ HI.out)
    clear hn hr hpl hpc hs HP
    unfold av
    go_enter Try.func9, Try.ntmps9
    go_wp2_with (go_at_call 20; refine HC.out.mono ?_; rintro e w2 ⟨rfl, hst⟩)
    go_ret
    exact ⟨rfl, DStep.from' HF.out hst⟩
  · have HC := Lib.hid (start_any B db m d A c picks _ HI.out HBd.out hn hr HP.out hpl hpc)
    clear hn hr hpl hpc hs HP
    unfold av
    go_enter Try.func9, Try.ntmps9
    go_wp2_with (go_at_call 21; refine HC.out.mono ?_; rintro e w2 ⟨rfl, hst⟩)
    go_ret
    exact ⟨rfl, DStep.from' HF.out hst⟩
  · have Hd := Lib.hid (show doesE d ⟨kind, no, n, s, picks⟩ = 0 ∧ doesS d ⟨kind, no, n, s, picks⟩ = d by simp [doesE, doesS, h1, h2, h3, h4, h5, h6, h7])
    clear hn hr hpl hpc hs HP
    unfold av
    go_enter Try.func9, Try.ntmps9
    go_wp2
    go_ret
    rw [Hd.out.1, Hd.out.2]
    exact ⟨rfl, HI.out, HF.out⟩
set_option maxRecDepth 100000 in
set_option maxHeartbeats 4000000 in
theorem does_nil (x : Ac) (w : World) (h : 1 ≤ x.p.kind ∧ x.p.kind ≤ 7) :
    Calls Try.prog 9 #[.pointer none, av x] w fun e w' => e = .returned (.int .i64 2) ∧ Below w.heap.size w w' := by
  obtain ⟨⟨kind, no, n, s, picks⟩, A, c⟩ := x
  have HB1 := Lib.hid (bel_allocT w (.cells #[.int .i64 kind, .int .i64 no, .int .i64 n, .string s, .slice A picks.length c] 28))
  have h' : 1 ≤ kind ∧ kind ≤ 7 := h
  clear h
  rcases kinds kind with rfl | rfl | rfl | rfl | rfl | rfl | rfl | ⟨h1, h2, h3, h4, h5, h6, h7⟩
  · unfold av
    go_enter Try.func9, Try.ntmps9
    go_wp2_with (go_at_call 19; refine (append_nil no s _).mono ?_; rintro e w2 ⟨rfl, rfl⟩)
    go_ret
    exact ⟨rfl, HB1.out⟩
  · unfold av
    go_enter Try.func9, Try.ntmps9
    go_wp2_with (go_at_call 22; refine (sync_nil no _).mono ?_; rintro e w2 ⟨rfl, rfl⟩)
    go_ret
    exact ⟨rfl, HB1.out⟩
  · unfold av
    go_enter Try.func9, Try.ntmps9
    go_wp2_with (go_at_call 23; refine (trim_nil no n _).mono ?_; rintro e w2 ⟨rfl, rfl⟩)
    go_ret
    exact ⟨rfl, HB1.out⟩
  · unfold av
    go_enter Try.func9, Try.ntmps9
    go_wp2_with (go_at_call 24; refine (remove_nil no _).mono ?_; rintro e w2 ⟨rfl, rfl⟩)
    go_ret
    exact ⟨rfl, HB1.out⟩
  · unfold av
    go_enter Try.func9, Try.ntmps9
    go_wp2_with (go_at_call 13; refine (fuse_nil n _).mono ?_; rintro e w2 ⟨rfl, rfl⟩)
    go_ret
    exact ⟨rfl, HB1.out⟩
  · unfold av
    go_enter Try.func9, Try.ntmps9
    go_wp2_with (go_at_call 20; refine (cut_nil _).mono ?_; rintro e w2 ⟨rfl, rfl⟩)
    go_ret
    exact ⟨rfl, HB1.out⟩
  · unfold av
    go_enter Try.func9, Try.ntmps9
    go_wp2_with (go_at_call 21; refine (start_nil _ _).mono ?_; rintro e w2 ⟨rfl, rfl⟩)
    go_ret
    exact ⟨rfl, HB1.out⟩
  · omega
end Go.Proofs.Ytdmjbdecemajpaa.D
