/- The walks of the laws' helpers: awake, cutAct, Does. -/
import Derived.Test.YtdmjbdecemajpaaDk7
import Derived.Test.YtdmjbdecemajpaaDlP
namespace Go.Proofs.Ytdmjbdecemajpaa.D
set_option linter.unusedVariables false
set_option linter.unusedSimpArgs false
open Go.RowKit
theorem Okk.bd {s : DS} {k : Nat} (h : Okk s k) (hk : k ≤ 1000000) : Bd s :=
  ⟨⟨h.steps.1, by have := h.steps.2; omega⟩, h.fuse, fun no => (fl_ok h.fl no).2, fun no => (fl_ok h.fl no).1, Nat.le_trans h.len (by decide)⟩
theorem Okk.rng {s : DS} {k : Nat} (h : Okk s k) : ∀ p ∈ s.files, 1 ≤ p.1 ∧ p.1 ≤ 1000000 := fun p hp => (h.fl p hp).1
theorem Okk.start : Okk DS0 0 := ⟨List.Pairwise.nil, Nat.zero_le _, fun p hp => by simp [DS0] at hp, ⟨Int.le_refl _, by show (0 : Int) ≤ _; omega⟩, ⟨Int.le_refl _, by show (0 : Int) ≤ _; omega⟩⟩
def ex0 : DS := DS0
def ex1 : DS := appS ex0 1 ⟨#[97, 98, 99]⟩
def ex2 : DS := cutS ex1
def ex3 : DS := staS ex2 [2]
theorem ex1_is : ex1 = ⟨[(1, ⟨⟨#[97, 98, 99]⟩, 0⟩)], false, 0, 1⟩ := by kernel_rfl
theorem ex2_is : ex2 = ⟨[(1, ⟨⟨#[97, 98, 99]⟩, 0⟩)], true, 0, 1⟩ := by unfold ex2; rw [ex1_is]; rfl
theorem sta_ex : staF [2] [1] [(1, ⟨⟨#[97, 98, 99]⟩, 0⟩)] 0 = [(1, ⟨⟨#[97, 98]⟩, 2⟩)] := by decide +kernel
theorem ex3_is : ex3 = ⟨[(1, ⟨⟨#[97, 98]⟩, 2⟩)], false, 0, 1⟩ := by
  unfold ex3
  rw [ex2_is]
  have hk : (⟨[(1, ⟨⟨#[97, 98, 99]⟩, 0⟩)], true, 0, 1⟩ : DS).keys = [1] := by
    show ([1] : List Int).mergeSort leI = [1]
    rw [List.mergeSort_singleton]
  unfold staS
  rw [if_pos rfl, hk]
  show (⟨staF [2] [1] [(1, ⟨⟨#[97, 98, 99]⟩, 0⟩)] 0, false, 0, 1⟩ : DS) = _
  rw [sta_ex]
set_option maxRecDepth 100000 in
set_option maxHeartbeats 2000000 in
theorem awake_any (w : World) : Calls Try.prog 6 #[] w fun e w' => e = .returned (.bool true) ∧ Below w.heap.size w w' := by
  have o0 : Okk ex0 0 := Okk.start
  have o1 : Okk ex1 1 := o0.app _ _
  have o2 : Okk ex2 2 := o1.cut
  have B0 := Lib.hid (o0.bd (by decide))
  have B2 := Lib.hid (o2.bd (by decide))
  have O2 := Lib.hid o2
  have a1 : appE ex0 1 ⟨#[97, 98, 99]⟩ = 0 := by decide +kernel
  have a2 : fusE ex1 = 0 := by rw [ex1_is]; rfl
  have a3 : staE ex2 = 0 := by rw [ex2_is]; rfl
  have a4 : readT ex3 1 = ⟨#[97, 98]⟩ ∧ readB ex3 1 = true := by rw [ex3_is]; decide +kernel
  have A1 := Lib.hid a1
  have A2 := Lib.hid a2
  have A3 := Lib.hid a3
  have A4 := Lib.hid a4
  clear o0 o1 o2 a1 a2 a3 a4
  go_enter Try.func6, Try.ntmps6
  go_upto_region 2 with (go_at_call 7; refine (new_any _).mono ?_; rintro e w1 ⟨db, m, rfl, hI, hb⟩)
  have HI0 := Lib.hid (show DInv w.heap.size db m ex0 w1 from hI)
  have HB0 := Lib.hid hb
  have C1 := append_any _ db m ex0 1 ⟨#[97, 98, 99]⟩ w1 hI B0.out (by decide)
  rw [A1.out] at C1
  have HC1 := Lib.hid C1
  clear hI hb C1
  go_upto_region 3 with (go_at_call 19; refine HC1.out.mono ?_; rintro e w2 ⟨rfl, hs⟩)
  have HB1 := Lib.hid (DStep.below HI0.out HB0.out hs)
  have HI1 := Lib.hid (show DInv w.heap.size db m ex1 w2 from hs.1)
  have C2 := cut_any _ db m ex1 w2 hs.1
  rw [A2.out] at C2
  have HC2 := Lib.hid C2
  clear hs C2
  go_upto_region 4 with (go_at_call 20; refine HC2.out.mono ?_; rintro e w3 ⟨rfl, hs⟩)
  have HB2 := Lib.hid (DStep.below HI1.out HB1.out hs)
  have HI2 := Lib.hid (show DInv w.heap.size db m ex2 w3 from hs.1)
  have hbx := bel_allocT w3 (.cells #[.int .i64 2] 3)
  have hpk : Pk db m (w3.alloc (.cells #[.int .i64 2] 3)) (some ⟨w3.heap.size, 0, none⟩) [2] := by
    refine ⟨fun k hk => ?_, fun _ _ ad ha => ?_⟩
    · obtain rfl : k = 0 := by simpa using hk
      refine ⟨_, rfl, ?_⟩
      show (w3.alloc (.cells #[.int .i64 2] 3)).cell? ⟨w3.heap.size, 0, none⟩ = some (.int .i64 2)
      have := G.heap_new w3 (.cells #[.int .i64 2] 3)
      simp only [World.cell?, this]
      rfl
    · cases ha
      exact fun hf => Nat.lt_irrefl _ (hs.1.foot_lt hf)
  have C3 := start_any w.heap.size db m ex2 (some ⟨w3.heap.size, 0, none⟩) 1 [2] _ (hs.1.below hbx) B2.out O2.out.nd O2.out.rng hpk (by decide) (by decide)
  rw [A3.out] at C3
  have HC3 := Lib.hid C3
  have HBX := Lib.hid hbx
  clear hs C3 hbx hpk
  go_upto_region 5 with (go_at_call 21; refine HC3.out.mono ?_; rintro e w4 ⟨rfl, hs⟩)
  have HB3 := Lib.hid (DStep.below (HI2.out.below HBX.out) (HB2.out.trans (belowLe HB2.out.size HBX.out)) hs)
  have C4 := read_any _ db m ex3 1 w4 hs.1
  rw [A4.out.1, A4.out.2] at C4
  have HC4 := Lib.hid C4
  clear hs C4
  go_wp2_with (go_at_call 10; refine HC4.out.mono ?_; rintro e w5 ⟨rfl, hb5⟩)
  go_ret
  exact ⟨rfl, HB3.out.trans (belowLe HB3.out.size hb5)⟩
/-- an act as it lies: its fields, and the slice of its picks -/
structure Ac where
  p : Pl
  A : Option Addr
  c : Nat
def ac (x : Ac) : List Value := [.int .i64 x.p.kind, .int .i64 x.p.no, .int .i64 x.p.n, .string x.p.s, .slice x.A x.p.picks.length x.c]
/-- the picks lie there -/
def Lies (w : World) (x : Ac) : Prop := x.p.picks.length ≤ x.c ∧ ∀ k (hk : k < x.p.picks.length), ∃ ad, x.A = some ad ∧ w.cell? (ad.add k) = some (.int .i64 x.p.picks[k])
def cutP (x : Ac) : Ac := ⟨{ x.p with s := x.p.s.extract 0 (min x.p.s.size 300), picks := x.p.picks.take (min x.p.picks.length 20) }, x.A, x.c⟩
theorem Lies.cut {w : World} {x : Ac} (h : Lies w x) : Lies w (cutP x) := by
  obtain ⟨h1, h2⟩ := h
  refine ⟨?_, fun k hk => ?_⟩
  · show (x.p.picks.take (min x.p.picks.length 20)).length ≤ x.c
    rw [List.length_take]; omega
  · have hk' : k < (x.p.picks.take (min x.p.picks.length 20)).length := hk
    rw [List.length_take] at hk'
    obtain ⟨ad, ha, hc⟩ := h2 k (by omega)
    refine ⟨ad, ha, ?_⟩
    simp only [cutP, List.getElem_take]
    exact hc
end Go.Proofs.Ytdmjbdecemajpaa.D
