/- Shapes: the parts that are asked. -/
import Derived.Test.YtolndeolehkjoaaEq3c
namespace Go.Proofs.Ytolndeolehkjoaa
set_option linter.unusedVariables false
set_option linter.unusedSimpArgs false
open Go.RowKit CodP
set_option maxRecDepth 100000 in
set_option maxHeartbeats 1000000 in
theorem within_any (n m : Int) (r : Bool) (hr : inR n m = r) (w : World) :
    Calls Try.prog 51 #[.int .i64 n, .int .i64 m] w fun e w' => e = .returned (.bool r) ∧ w' = w := by
  subst hr
  by_cases h0 : 0 ≤ n
  · by_cases h1 : n ≤ m
    · have hi : inR n m = true := decide_eq_true ⟨h0, h1⟩
      have HI := Lib.hid hi
      have d0 : decide (0 ≤ n) = true := decide_eq_true h0
      have d1 : decide (n ≤ m) = true := decide_eq_true h1
      clear hi
      go_enter Try.func51, Try.ntmps51
      go_wp2
      go_ret
      exact ⟨by rw [HI.out]; rfl, rfl⟩
    · have hi : inR n m = false := decide_eq_false (fun h => h1 h.2)
      have HI := Lib.hid hi
      have d0 : decide (0 ≤ n) = true := decide_eq_true h0
      have d1 : decide (n ≤ m) = false := decide_eq_false h1
      clear hi
      go_enter Try.func51, Try.ntmps51
      go_wp2
      go_ret
      exact ⟨by rw [HI.out]; rfl, rfl⟩
  · have hi : inR n m = false := decide_eq_false (fun h => h0 h.1)
    have HI := Lib.hid hi
    have d0 : decide (0 ≤ n) = false := decide_eq_false h0
    clear hi
    go_enter Try.func51, Try.ntmps51
    go_wp2
    go_ret
    exact ⟨by rw [HI.out]; rfl, rfl⟩
def longS (s : ByteArray) : Bool := decide ((200 : Int) < s.size)
def longP (p : ByteArray × ByteArray) : Bool := decide ((200 : Int) < p.1.size) || decide ((200 : Int) < p.2.size)
set_option maxRecDepth 100000 in
set_option maxHeartbeats 1000000 in
theorem long1_any (s : ByteArray) (w : World) : Calls Try.prog 89 #[.string s] w fun e w' => e = .returned (.bool (longS s)) ∧ Below w.heap.size w w' := by
  go_enter Try.func89, Try.ntmps89
  go_wp2
  go_ret
  exact ⟨rfl, Below.refl _ _⟩
set_option maxRecDepth 100000 in
set_option maxHeartbeats 1000000 in
theorem long2_any (p : ByteArray × ByteArray) (w : World) : Calls Try.prog 91 #[.agg #[.string p.1, .string p.2]] w fun e w' => e = .returned (.bool (longP p)) ∧ Below w.heap.size w w' := by
  obtain ⟨w1, hw1⟩ : ∃ w1, w1 = w.alloc (.cells #[.string p.1, .string p.2] 102) := ⟨_, rfl⟩
  have b1 : Below w.heap.size w w1 := by rw [hw1]; exact bel_alloc _ _
  have p1 : w1.heap[w.heap.size]? = some (.cells #[.string p.1, .string p.2] 102 (0, 0)) := by rw [hw1]; exact G.heap_new _ _
  have c0 : w1.cell? ⟨w.heap.size, 0, none⟩ = some (.string p.1) := by simp [World.cell?, p1]
  have c1 : w1.cell? ⟨w.heap.size, 1, none⟩ = some (.string p.2) := by simp [World.cell?, p1]
  have HW := Lib.hid hw1
  have B1 := Lib.hid b1
  clear b1 p1 hw1
  by_cases h : (200 : Int) < p.1.size
  · have hl : longP p = true := by simp [longP, h]
    have HL := Lib.hid hl
    have hd : decide ((200 : Int) < p.1.size) = true := decide_eq_true h
    clear hl
    go_enter Try.func91, Try.ntmps91
    go_upto_region 1 with (fail)
    rw [← HW.out]
    go_wp2
    go_ret
    exact ⟨by rw [HL.out]; rfl, B1.out⟩
  · have hl : longP p = decide ((200 : Int) < p.2.size) := by simp [longP, h]
    have HL := Lib.hid hl
    have hd : decide ((200 : Int) < p.1.size) = false := decide_eq_false h
    clear hl
    go_enter Try.func91, Try.ntmps91
    go_upto_region 1 with (fail)
    rw [← HW.out]
    go_wp2
    go_ret
    exact ⟨by rw [HL.out]; rfl, B1.out⟩
theorem any_take {T : Type} (f : T → Bool) {L : List T} {k : Nat} {x : T} (h : (L.take k).any f = false) (hx : L[k]? = some x) (hf : f x = false) : (L.take (k + 1)).any f = false := by
  rw [List.take_add_one, hx, List.any_append, h]; simp [hf]
theorem any_hit {T : Type} (f : T → Bool) {L : List T} {k : Nat} {x : T} (hx : L[k]? = some x) (hf : f x = true) : L.any f = true :=
  List.any_eq_true.2 ⟨x, List.mem_of_getElem? hx, hf⟩

set_option maxRecDepth 100000 in
set_option maxHeartbeats 2000000 in
theorem idxS_any (L : List ByteArray) (A : Option Addr) (c : Nat) (hL : L.length ≤ 1000000) (w : World) (hr : RowR w A (L.flatMap cS)) :
    Calls Try.prog 96 #[.slice A L.length c, .func (.func 89) #[] #[]] w fun e w' => ∃ r : Int, e = .returned (.int .i64 r) ∧ decide (0 ≤ r) = L.any longS ∧ Below w.heap.size w w' := by
  have HR := Lib.hid hr
  clear hr
  go_enter Try.func96, Try.ntmps96
  go_wp2
  go_loopw [8] (fun i wr => ∃ k : Nat, k ≤ L.length ∧ i = .int .i64 k ∧ Hid ((L.take k).any longS = false ∧ Below w.heap.size w wr)) (fun i _ => L.length - (intOf i).toNat)
  case atStart => exact ⟨0, Nat.zero_le _, rfl, Lib.hid ⟨by simp, Below.refl _ _⟩⟩
  case round =>
    obtain ⟨k, hk, rfl, H⟩ := hrel
    by_cases hkn : k < L.length
    · obtain ⟨x, hx⟩ : ∃ x, L[k]? = some x := ⟨_, List.getElem?_eq_getElem hkn⟩
      have h1 := flat_at cS 1 (fun _ => rfl) L k x hx 0 (by omega)
      obtain ⟨ad, hA, e1⟩ := HR.out.below H.out.2 _ _ h1
      simp only [Nat.mul_one, Nat.add_zero] at e1
      subst hA
      clear h1
      have hc := long1_any x wr
      by_cases hl : longS x = true
      · have hn := any_hit longS hx hl
        rw [hl] at hc
        have HN := Lib.hid hn
        have HC := Lib.hid hc
        clear hx hl hn hc
        go_wp2_with (fail)
        refine HC.out.mono ?_
        rintro e w1 ⟨rfl, hb⟩
        have HB := Lib.hid (G.bthen' H.out.2 H.out.2.size hb)
        clear hb
        go_wp2
        go_ret
        exact ⟨k, rfl, by rw [HN.out]; exact decide_eq_true (by omega), HB.out⟩
      · have hl : longS x = false := by simpa using hl
        have hn := any_take longS H.out.1 hx hl
        rw [hl] at hc
        have HN := Lib.hid hn
        have HC := Lib.hid hc
        clear hx hl hn hc
        go_wp2_with (fail)
        refine HC.out.mono ?_
        rintro e w1 ⟨rfl, hb⟩
        have HB := Lib.hid (G.bthen' H.out.2 H.out.2.size hb)
        clear hb
        go_wp2
        go_roundw
        case rel => exact ⟨k + 1, by omega, by go_num, Lib.hid ⟨HN.out, HB.out⟩⟩
        case measure => simp [intOf]; omega
    · obtain rfl : k = L.length := by omega
      have hn : L.any longS = false := by have := H.out.1; rwa [List.take_length] at this
      have HN := Lib.hid hn
      clear hn
      go_wp2
      go_ret
      exact ⟨-1, rfl, by rw [HN.out]; rfl, H.out.2⟩
set_option maxRecDepth 100000 in
set_option maxHeartbeats 1000000 in
theorem hasS_any (L : List ByteArray) (A : Option Addr) (c : Nat) (hL : L.length ≤ 1000000) (w : World) (hr : RowR w A (L.flatMap cS)) :
    Calls Try.prog 88 #[.slice A L.length c, .func (.func 89) #[] #[]] w fun e w' => e = .returned (.bool (L.any longS)) ∧ Below w.heap.size w w' := by
  have hc := idxS_any L A c hL w hr
  have HC := Lib.hid hc
  clear hc hr
  go_enter Try.func88, Try.ntmps88
  go_wp2_with (fail)
  refine HC.out.mono ?_
  rintro e w1 ⟨r, rfl, hd, hb⟩
  have HD := Lib.hid hd
  have HB := Lib.hid hb
  clear hd hb
  go_wp2
  go_ret
  exact ⟨by rw [← HD.out]; rfl, HB.out⟩

set_option maxRecDepth 100000 in
set_option maxHeartbeats 2000000 in
theorem idxP_any (L : List (ByteArray × ByteArray)) (A : Option Addr) (c : Nat) (hL : L.length ≤ 1000000) (w : World) (hr : RowR w A (L.flatMap cP)) :
    Calls Try.prog 97 #[.slice A L.length c, .func (.func 91) #[] #[]] w fun e w' => ∃ r : Int, e = .returned (.int .i64 r) ∧ decide (0 ≤ r) = L.any longP ∧ Below w.heap.size w w' := by
  have HR := Lib.hid hr
  clear hr
  go_enter Try.func97, Try.ntmps97
  go_wp2
  go_loopw [8] (fun i wr => ∃ k : Nat, k ≤ L.length ∧ i = .int .i64 k ∧ Hid ((L.take k).any longP = false ∧ Below w.heap.size w wr)) (fun i _ => L.length - (intOf i).toNat)
  case atStart => exact ⟨0, Nat.zero_le _, rfl, Lib.hid ⟨by simp, Below.refl _ _⟩⟩
  case round =>
    obtain ⟨k, hk, rfl, H⟩ := hrel
    by_cases hkn : k < L.length
    · obtain ⟨x, hx⟩ : ∃ x, L[k]? = some x := ⟨_, List.getElem?_eq_getElem hkn⟩
      have h1 := flat_at cP 2 (fun _ => rfl) L k x hx 0 (by omega)
      have h3 := flat_at cP 2 (fun _ => rfl) L k x hx 1 (by omega)
      obtain ⟨ad, hA, e1⟩ := HR.out.below H.out.2 _ _ h1
      obtain ⟨ad', hA', e3⟩ := HR.out.below H.out.2 _ _ h3
      simp only [Nat.add_zero] at e1
      subst hA
      obtain rfl : ad = ad' := by simpa using hA'
      rw [← addadd] at e3
      have f3 : wr.cell? ⟨(ad.add (k * 2)).block, (ad.add (k * 2)).off + 1, none⟩ = some (.string x.2) := e3
      clear h1 h3 e3 hA' 
      have hc := long2_any x wr
      by_cases hl : longP x = true
      · have hn := any_hit longP hx hl
        rw [hl] at hc
        have HN := Lib.hid hn
        have HC := Lib.hid hc
        clear hx hl hn hc
        go_wp2_with (fail)
        refine HC.out.mono ?_
        rintro e w1 ⟨rfl, hb⟩
        have HB := Lib.hid (G.bthen' H.out.2 H.out.2.size hb)
        clear hb
        go_wp2
        go_ret
        exact ⟨k, rfl, by rw [HN.out]; exact decide_eq_true (by omega), HB.out⟩
      · have hl : longP x = false := by simpa using hl
        have hn := any_take longP H.out.1 hx hl
        rw [hl] at hc
        have HN := Lib.hid hn
        have HC := Lib.hid hc
        clear hx hl hn hc
        go_wp2_with (fail)
        refine HC.out.mono ?_
        rintro e w1 ⟨rfl, hb⟩
        have HB := Lib.hid (G.bthen' H.out.2 H.out.2.size hb)
        clear hb
        go_wp2
        go_roundw
        case rel => exact ⟨k + 1, by omega, by go_num, Lib.hid ⟨HN.out, HB.out⟩⟩
        case measure => simp [intOf]; omega
    · obtain rfl : k = L.length := by omega
      have hn : L.any longP = false := by have := H.out.1; rwa [List.take_length] at this
      have HN := Lib.hid hn
      clear hn
      go_wp2
      go_ret
      exact ⟨-1, rfl, by rw [HN.out]; rfl, H.out.2⟩
set_option maxRecDepth 100000 in
set_option maxHeartbeats 1000000 in
theorem hasP_any (L : List (ByteArray × ByteArray)) (A : Option Addr) (c : Nat) (hL : L.length ≤ 1000000) (w : World) (hr : RowR w A (L.flatMap cP)) :
    Calls Try.prog 90 #[.slice A L.length c, .func (.func 91) #[] #[]] w fun e w' => e = .returned (.bool (L.any longP)) ∧ Below w.heap.size w w' := by
  have hc := idxP_any L A c hL w hr
  have HC := Lib.hid hc
  clear hc hr
  go_enter Try.func90, Try.ntmps90
  go_wp2_with (fail)
  refine HC.out.mono ?_
  rintro e w1 ⟨r, rfl, hd, hb⟩
  have HD := Lib.hid hd
  have HB := Lib.hid hb
  clear hd hb
  go_wp2
  go_ret
  exact ⟨by rw [← HD.out]; rfl, HB.out⟩

theorem any_long (L : List ByteArray) : (!(L.any longS)) = L.all fun s => decide (s.size ≤ 200) := by
  induction L with
  | nil => rfl
  | cons a L ih =>
    rw [List.any_cons, List.all_cons, ← ih, Bool.not_or]
    congr 1
    by_cases h : a.size ≤ 200
    · rw [decide_eq_true h, longS, decide_eq_false (by omega)]; rfl
    · rw [decide_eq_false h, longS, decide_eq_true (by omega)]; rfl
theorem any_longP (L : List (ByteArray × ByteArray)) : (!(L.any longP)) = L.all fun p => decide (p.1.size ≤ 200 ∧ p.2.size ≤ 200) := by
  induction L with
  | nil => rfl
  | cons a L ih =>
    rw [List.any_cons, List.all_cons, ← ih, Bool.not_or]
    congr 1
    by_cases h : a.1.size ≤ 200 ∧ a.2.size ≤ 200
    · rw [decide_eq_true h, longP, decide_eq_false (by omega), decide_eq_false (by omega)]; rfl
    · rw [decide_eq_false h, longP]
      by_cases h1 : a.1.size ≤ 200
      · rw [decide_eq_false (by omega), decide_eq_true (by omega)]; rfl
      · rw [decide_eq_true (by omega)]; rfl
set_option maxRecDepth 100000 in
set_option maxHeartbeats 1000000 in
theorem texts_any (L : List ByteArray) (A : Option Addr) (c m : Nat) (hL : L.length ≤ 1000000) (r : Bool) (hres : textsB L m = r) (w : World) (hr : RowR w A (L.flatMap cS)) :
    Calls Try.prog 52 #[.slice A L.length c, .int .i64 m] w fun e w' => e = .returned (.bool r) ∧ Below w.heap.size w w' := by
  have hc := hasS_any L A c hL w hr
  have hb2 : r = (decide ((L.length : Int) ≤ m) && !(L.any longS)) := by
    rw [← hres, textsB, any_long]
    congr 1
    by_cases h : L.length ≤ m
    · rw [decide_eq_true h, decide_eq_true (by omega)]
    · rw [decide_eq_false h, decide_eq_false (by omega)]
  have HC := Lib.hid hc
  have HB2 := Lib.hid hb2
  clear hc hr hb2
  by_cases h : (L.length : Int) ≤ m
  · have hd : decide ((L.length : Int) ≤ m) = true := decide_eq_true h
    have HD := Lib.hid hd
    go_enter Try.func52, Try.ntmps52
    go_wp2_with (fail)
    refine HC.out.mono ?_
    rintro e w1 ⟨rfl, hb⟩
    have HB := Lib.hid hb
    clear hb
    go_wp2
    go_ret
    exact ⟨by rw [HB2.out, HD.out]; rfl, HB.out⟩
  · have hd : decide ((L.length : Int) ≤ m) = false := decide_eq_false h
    have HD := Lib.hid hd
    go_enter Try.func52, Try.ntmps52
    go_wp2
    go_ret
    exact ⟨by rw [HB2.out, HD.out]; rfl, Below.refl _ _⟩
set_option maxRecDepth 100000 in
set_option maxHeartbeats 1000000 in
theorem labels_any (L : List (ByteArray × ByteArray)) (A : Option Addr) (c : Nat) (hL : L.length ≤ 1000000) (r : Bool) (hres : labelsB L = r) (w : World) (hr : RowR w A (L.flatMap cP)) :
    Calls Try.prog 53 #[.slice A L.length c] w fun e w' => e = .returned (.bool r) ∧ Below w.heap.size w w' := by
  have hc := hasP_any L A c hL w hr
  have hb2 : r = (decide ((L.length : Int) ≤ 16) && !(L.any longP)) := by
    rw [← hres, labelsB, any_longP]
    congr 1
    by_cases h : L.length ≤ 16
    · rw [decide_eq_true h, decide_eq_true (by omega)]
    · rw [decide_eq_false h, decide_eq_false (by omega)]
  have HC := Lib.hid hc
  have HB2 := Lib.hid hb2
  clear hc hr hb2
  by_cases h : (L.length : Int) ≤ 16
  · have hd : decide ((L.length : Int) ≤ 16) = true := decide_eq_true h
    have HD := Lib.hid hd
    go_enter Try.func53, Try.ntmps53
    go_wp2_with (fail)
    refine HC.out.mono ?_
    rintro e w1 ⟨rfl, hb⟩
    have HB := Lib.hid hb
    clear hb
    go_wp2
    go_ret
    exact ⟨by rw [HB2.out, HD.out]; rfl, HB.out⟩
  · have hd : decide ((L.length : Int) ≤ 16) = false := decide_eq_false h
    have HD := Lib.hid hd
    go_enter Try.func53, Try.ntmps53
    go_wp2
    go_ret
    exact ⟨by rw [HB2.out, HD.out]; rfl, Below.refl _ _⟩
end Go.Proofs.Ytolndeolehkjoaa
