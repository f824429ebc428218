/- What is more than is gone through. -/
import Derived.Test.YtmbmnldheilffaaMo4
namespace Go.Proofs.Ytmbmnldheilffaa
set_option linter.unusedVariables false
set_option linter.unusedSimpArgs false
open Go.RowKit
def longP (p : ByteArray × ByteArray) : Bool := decide ((200 : Int) < p.1.size) || decide ((200 : Int) < p.2.size)
theorem any_take {T : Type} (f : T → Bool) {L : List T} {k : Nat} {x : T} (h : (L.take k).any f = false) (hx : L[k]? = some x) (hf : f x = false) : (L.take (k + 1)).any f = false := by
  rw [List.take_add_one, hx, List.any_append, h]; simp [hf]
theorem any_hit {T : Type} (f : T → Bool) {L : List T} {k : Nat} {x : T} (hx : L[k]? = some x) (hf : f x = true) : L.any f = true :=
  List.any_eq_true.2 ⟨x, List.mem_of_getElem? hx, hf⟩

def long6 (s : ByteArray) : Bool := decide ((600 : Int) < s.size)
def longTexts (L : List ByteArray) : Bool := decide ((40 : Int) < L.length) || L.any long6
def longPairs (L : List (ByteArray × ByteArray)) : Bool := decide ((40 : Int) < L.length) || L.any longP

set_option maxRecDepth 100000 in
set_option maxHeartbeats 2000000 in
theorem longT_any (L : List ByteArray) (A : Option Addr) (c : Nat) (w : World) (hr : RowR w A (L.flatMap cS)) :
    Calls Try.prog 33 #[.slice A L.length c] w fun e w' => e = .returned (.bool (longTexts L)) ∧ Below w.heap.size w w' := by
  have HR := Lib.hid hr
  clear hr
  by_cases h40 : (40 : Int) < L.length
  · have hres : longTexts L = true := by unfold longTexts; rw [decide_eq_true h40]; rfl
    have HRES := Lib.hid hres
    clear hres
    go_enter Try.func33, Try.ntmps33
    go_wp2
    go_ret
    exact ⟨by rw [HRES.out]; rfl, Below.refl _ _⟩
  · have hres : longTexts L = L.any long6 := by unfold longTexts; rw [decide_eq_false h40]; rfl
    have HRES := Lib.hid hres
    have hle : (L.length : Int) ≤ 40 := by omega
    clear hres h40
    go_enter Try.func33, Try.ntmps33
    go_wp2
    go_loopw [3] (fun i wr => ∃ k : Nat, k ≤ L.length ∧ i = .int .i64 k ∧ Hid ((L.take k).any long6 = false ∧ Below w.heap.size w wr)) (fun i _ => L.length - (intOf i).toNat)
    case atStart => exact ⟨0, Nat.zero_le _, rfl, Lib.hid ⟨by simp, Below.refl _ _⟩⟩
    case round =>
      obtain ⟨k, hk, rfl, H⟩ := hrel
      by_cases hkn : k < L.length
      · obtain ⟨x, hx⟩ : ∃ x, L[k]? = some x := ⟨_, List.getElem?_eq_getElem hkn⟩
        have h1 := flat_at cS 1 (fun _ => rfl) L k x hx 0 (by omega)
        obtain ⟨ad, hA, e1⟩ := HR.out.below H.out.2 _ _ h1
        simp only [Nat.mul_one, Nat.add_zero] at e1
        subst hA
        clear h1
        by_cases hl : long6 x = true
        · have hn := any_hit long6 hx hl
          have HN := Lib.hid hn
          have hd : (600 : Int) < x.size := by simpa [long6] using hl
          clear hl
          clear hx hn
          go_wp2
          go_ret
          exact ⟨by rw [HRES.out, HN.out]; rfl, H.out.2⟩
        · have hl : long6 x = false := by simpa using hl
          have hn := any_take long6 H.out.1 hx hl
          have HN := Lib.hid hn
          have hd : (x.size : Int) ≤ 600 := by
            simp only [long6, decide_eq_false_iff_not] at hl
            omega
          clear hl
          clear hx hn
          go_wp2
          go_roundw
          case rel => exact ⟨k + 1, by omega, by go_num, Lib.hid ⟨HN.out, H.out.2⟩⟩
          case measure => simp [intOf]; omega
      · obtain rfl : k = L.length := by omega
        have hn : L.any long6 = false := by have := H.out.1; rwa [List.take_length] at this
        have HN := Lib.hid hn
        clear hn
        go_wp2
        go_ret
        exact ⟨by rw [HRES.out, HN.out]; rfl, H.out.2⟩

set_option maxRecDepth 100000 in
set_option maxHeartbeats 2000000 in
theorem longL_any (L : List (ByteArray × ByteArray)) (A : Option Addr) (c : Nat) (w : World) (hr : RowR w A (L.flatMap cP)) :
    Calls Try.prog 32 #[.slice A L.length c] w fun e w' => e = .returned (.bool (longPairs L)) ∧ Below w.heap.size w w' := by
  have HR := Lib.hid hr
  clear hr
  by_cases h40 : (40 : Int) < L.length
  · have hres : longPairs L = true := by unfold longPairs; rw [decide_eq_true h40]; rfl
    have HRES := Lib.hid hres
    clear hres
    go_enter Try.func32, Try.ntmps32
    go_wp2
    go_ret
    exact ⟨by rw [HRES.out]; rfl, Below.refl _ _⟩
  · have hres : longPairs L = L.any longP := by unfold longPairs; rw [decide_eq_false h40]; rfl
    have HRES := Lib.hid hres
    have hle : (L.length : Int) ≤ 40 := by omega
    clear hres h40
    go_enter Try.func32, Try.ntmps32
    go_wp2
    go_loopw [3] (fun i wr => ∃ k : Nat, k ≤ L.length ∧ i = .int .i64 k ∧ Hid ((L.take k).any longP = false ∧ Below w.heap.size w wr)) (fun i _ => L.length - (intOf i).toNat)
    case atStart => exact ⟨0, Nat.zero_le _, rfl, Lib.hid ⟨by simp, Below.refl _ _⟩⟩
    case round =>
      obtain ⟨k, hk, rfl, H⟩ := hrel
      by_cases hkn : k < L.length
      · obtain ⟨x, hx⟩ : ∃ x, L[k]? = some x := ⟨_, List.getElem?_eq_getElem hkn⟩
        have h1 := flat_at cP 2 (fun _ => rfl) L k x hx 0 (by omega)
        have h3 := flat_at cP 2 (fun _ => rfl) L k x hx 1 (by omega)
        obtain ⟨ad, hA, e1⟩ := HR.out.below H.out.2 _ _ h1
        obtain ⟨ad', hA', e3⟩ := HR.out.below H.out.2 _ _ h3
        simp only [Nat.add_zero] at e1
        subst hA
        obtain rfl : ad = ad' := by simpa using hA'
        rw [← addadd] at e3
        have f3 : wr.cell? ⟨(ad.add (k * 2)).block, (ad.add (k * 2)).off + 1, none⟩ = some (.string x.2) := e3
        clear h1 h3 e3 hA' 
        by_cases hl : longP x = true
        · have hn := any_hit longP hx hl
          have HN := Lib.hid hn
          by_cases hp : (200 : Int) < x.1.size
          · have hd : decide ((200 : Int) < x.1.size) = true := decide_eq_true hp
            clear hl hx hn
            go_wp2
            go_ret
            exact ⟨by rw [HRES.out, HN.out]; rfl, H.out.2⟩
          · have hd : decide ((200 : Int) < x.1.size) = false := decide_eq_false hp
            have hd2 : decide ((200 : Int) < x.2.size) = true := by simpa [longP, hp] using hl
            clear hl hx hn
            go_wp2
            go_ret
            exact ⟨by rw [HRES.out, HN.out]; rfl, H.out.2⟩
        · have hl : longP x = false := by simpa using hl
          have hn := any_take longP H.out.1 hx hl
          have HN := Lib.hid hn
          have hd : decide ((200 : Int) < x.1.size) = false := by
            simp only [longP, Bool.or_eq_false_iff] at hl; exact hl.1
          have hd2 : decide ((200 : Int) < x.2.size) = false := by
            simp only [longP, Bool.or_eq_false_iff] at hl; exact hl.2
          clear hl
          clear hx hn
          go_wp2
          go_roundw
          case rel => exact ⟨k + 1, by omega, by go_num, Lib.hid ⟨HN.out, H.out.2⟩⟩
          case measure => simp [intOf]; omega
      · obtain rfl : k = L.length := by omega
        have hn : L.any longP = false := by have := H.out.1; rwa [List.take_length] at this
        have HN := Lib.hid hn
        clear hn
        go_wp2
        go_ret
        exact ⟨by rw [HRES.out, HN.out]; rfl, H.out.2⟩
end Go.Proofs.Ytmbmnldheilffaa
