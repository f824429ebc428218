/- Lists held against each other: read-only walks. -/
import Derived.Test.YtmbmnldheilffaaMo1
namespace Go.Proofs.Ytmbmnldheilffaa
set_option linter.unusedVariables false
set_option linter.unusedSimpArgs false
open Go.RowKit
/-- a row of cells that is read -/
def RowR (w : World) (A : Option Addr) (cs : List Value) : Prop := ∀ j u, cs[j]? = some u → ∃ ad, A = some ad ∧ w.cell? (ad.add j) = some u
theorem RowR.below {w w1 : World} {A : Option Addr} {cs : List Value} (h : RowR w A cs) (hb : Below w.heap.size w w1) : RowR w1 A cs := fun j u hj => by
  obtain ⟨ad, h1, h2⟩ := h j u hj
  exact ⟨ad, h1, G.cell_below hb h2⟩
theorem RowR.nil (w : World) (A : Option Addr) : RowR w A [] := fun j u hj => by simp at hj
theorem str_ne {x y : ByteArray} (h : ¬ x = y) : (x.toList == y.toList) = false := by
  rw [beq_eq_false_iff_ne, ByteArray.toList_eq, ByteArray.toList_eq]
  exact fun e => h (BL_inj e)
theorem flat_at {T : Type} (cf : T → List Value) (sz : Nat) (hl : ∀ x, (cf x).length = sz) : ∀ (l : List T) (k : Nat) (x : T), l[k]? = some x → ∀ j, j < sz → (l.flatMap cf)[k * sz + j]? = (cf x)[j]?
  | [], k, x, h, j, hj => by simp at h
  | a :: l, 0, x, h, j, hj => by
      simp only [List.getElem?_cons_zero, Option.some.injEq] at h
      subst h
      rw [List.flatMap_cons, List.getElem?_append_left (by rw [hl]; omega)]
      simp
  | a :: l, k + 1, x, h, j, hj => by
      rw [List.flatMap_cons, List.getElem?_append_right (by rw [hl, Nat.add_mul]; omega), hl]
      have := flat_at cf sz hl l k x (by simpa using h) j hj
      rw [show (k + 1) * sz + j - sz = k * sz + j by rw [Nat.add_mul]; omega]
      exact this
theorem addadd (a : Addr) (m j : Nat) : (a.add m).add j = a.add (m + j) := by
  unfold Addr.add
  by_cases hj : j = 0
  · simp [hj]
  · by_cases hm : m = 0
    · simp [hm, hj]
    · rw [if_neg hj, if_neg hm, if_neg (by omega)]; simp [Nat.add_assoc]
theorem take_eq_next {T : Type} {l m : List T} {k : Nat} {x : T} (h : l.take k = m.take k) (hx : l[k]? = some x) (hy : m[k]? = some x) : l.take (k + 1) = m.take (k + 1) := by
  rw [List.take_add_one, List.take_add_one, h, hx, hy]
theorem take_ne {T : Type} {l m : List T} {k : Nat} {x y : T} (hx : l[k]? = some x) (hy : m[k]? = some y) (hne : ¬ x = y) : ¬ l = m := by
  rintro rfl
  rw [hx] at hy
  exact hne (by injection hy)
theorem toList_inj {a b : ByteArray} (h : a.toList = b.toList) : a = b := by
  rw [ByteArray.toList_eq, ByteArray.toList_eq] at h
  exact BL_inj h
theorem pair_eq (a b : ByteArray × ByteArray) (d : Nat) (w : World) : (Op.equalIn (d + 2) 78 (.agg #[.string a.1, .string a.2]) (.agg #[.string b.1, .string b.2])).run Try.prog w = .ok (decide (a = b)) w := by
  simp [go_sem]
  obtain ⟨k, s⟩ := a
  obtain ⟨k', s'⟩ := b
  by_cases h1 : k.toList = k'.toList
  · by_cases h2 : s.toList = s'.toList
    · have := toList_inj h1; have := toList_inj h2; subst_vars; simp
    · have h3 : s ≠ s' := fun e => h2 (by rw [e])
      simp [h1, h2, h3]
  · have h3 : k ≠ k' := fun e => h1 (by rw [e])
    simp [h1, h3]
theorem run_ne_pair (a b : ByteArray × ByteArray) (r : Bool) (h : (!decide (a = b)) = r) (W : World) : (binOp .neq 78 (.agg #[.string a.1, .string a.2]) (.agg #[.string b.1, .string b.2])).run Try.prog W = .ok (.bool r) W := by
  have := pair_eq a b 9998 W
  rw [← h]
  simp only [binOp] at *
  simp [Op.equal, Op.maxDepth, this]

set_option maxRecDepth 100000 in
set_option maxHeartbeats 2000000 in
theorem eqstr_any (L M : List ByteArray) (A C : Option Addr) (c d : Nat) (hL : L.length ≤ 1000000) (w : World) (hr : RowR w A (L.flatMap cS)) (hq : RowR w C (M.flatMap cS)) :
    Calls Try.prog 43 #[.slice A L.length c, .slice C M.length d] w fun e w' => e = .returned (.bool (decide (L = M))) ∧ Below w.heap.size w w' := by
  have HR := Lib.hid hr
  have HQ := Lib.hid hq
  clear hr hq
  by_cases hlen : L.length = M.length
  · have hd : ((L.length : Int) != (M.length : Int)) = false := by simp [hlen]
    have HLEN := Lib.hid hlen
    have hMl : (M.length : Int) = L.length := by omega
    rw [← hlen]
    clear hlen hd hMl
    go_enter Try.func43, Try.ntmps43
    go_wp2
    go_loopw [13] (fun i wr => ∃ k : Nat, k ≤ L.length ∧ i = .int .i64 k ∧ Hid (L.take k = M.take k ∧ Below w.heap.size w wr)) (fun i _ => L.length - (intOf i).toNat)
    case atStart => exact ⟨0, Nat.zero_le _, rfl, Lib.hid ⟨by simp, Below.refl _ _⟩⟩
    case round =>
      obtain ⟨k, hk, rfl, H⟩ := hrel
      by_cases hkn : k < L.length
      · obtain ⟨x, hx⟩ : ∃ x, L[k]? = some x := ⟨_, List.getElem?_eq_getElem hkn⟩
        obtain ⟨y, hy⟩ : ∃ y, M[k]? = some y := ⟨_, List.getElem?_eq_getElem (by have := HLEN.out; omega)⟩
        have h1 := flat_at cS 1 (fun _ => rfl) L k x hx 0 (by omega)
        have h2 := flat_at cS 1 (fun _ => rfl) M k y hy 0 (by omega)
        obtain ⟨ad, hA, e1⟩ := HR.out.below H.out.2 _ _ h1
        obtain ⟨bd, hC, e2⟩ := HQ.out.below H.out.2 _ _ h2
        simp only [Nat.mul_one, Nat.add_zero] at e1 e2
        subst hA; subst hC
        clear h1 h2
        by_cases hxy : x = y
        · subst hxy
          have hn := take_eq_next H.out.1 hx hy
          have HN := Lib.hid hn
          clear hx hy hn
          go_wp2
          go_quiet (fail)
          go_wp2
          go_roundw
          case rel => exact ⟨k + 1, by omega, by go_num, Lib.hid ⟨HN.out, G.bdrewN H.out.2 _⟩⟩
          case measure => simp [intOf]; omega
        · have hn := take_ne hx hy hxy
          have HN := Lib.hid hn
          have hf := str_ne hxy
          clear hx hy hn hxy
          go_wp2
          go_quiet (fail)
          go_wp2
          go_ret
          exact ⟨by rw [decide_eq_false HN.out]; rfl, G.bdrewN H.out.2 _⟩
      · obtain rfl : k = L.length := by omega
        have he : L = M := by
          have := H.out.1
          rwa [List.take_length, HLEN.out, List.take_length] at this
        have HE := Lib.hid he
        clear he
        go_wp2
        go_ret
        exact ⟨by rw [decide_eq_true HE.out]; rfl, H.out.2⟩
  · have hd : ((L.length : Int) != (M.length : Int)) = true := by simp; omega
    have hn : ¬ L = M := fun e => hlen (by rw [e])
    have HN := Lib.hid hn
    clear hn hlen
    go_enter Try.func43, Try.ntmps43
    go_wp2
    go_ret
    exact ⟨by rw [decide_eq_false HN.out]; rfl, Below.refl _ _⟩

set_option maxRecDepth 100000 in
set_option maxHeartbeats 2000000 in
theorem eqint_any (L M : List Int) (A C : Option Addr) (c d : Nat) (hL : L.length ≤ 1000000) (w : World) (hr : RowR w A (L.flatMap cI)) (hq : RowR w C (M.flatMap cI)) :
    Calls Try.prog 45 #[.slice A L.length c, .slice C M.length d] w fun e w' => e = .returned (.bool (decide (L = M))) ∧ Below w.heap.size w w' := by
  have HR := Lib.hid hr
  have HQ := Lib.hid hq
  clear hr hq
  by_cases hlen : L.length = M.length
  · have hd : ((L.length : Int) != (M.length : Int)) = false := by simp [hlen]
    have HLEN := Lib.hid hlen
    have hMl : (M.length : Int) = L.length := by omega
    rw [← hlen]
    clear hlen hd hMl
    go_enter Try.func45, Try.ntmps45
    go_wp2
    go_loopw [13] (fun i wr => ∃ k : Nat, k ≤ L.length ∧ i = .int .i64 k ∧ Hid (L.take k = M.take k ∧ Below w.heap.size w wr)) (fun i _ => L.length - (intOf i).toNat)
    case atStart => exact ⟨0, Nat.zero_le _, rfl, Lib.hid ⟨by simp, Below.refl _ _⟩⟩
    case round =>
      obtain ⟨k, hk, rfl, H⟩ := hrel
      by_cases hkn : k < L.length
      · obtain ⟨x, hx⟩ : ∃ x, L[k]? = some x := ⟨_, List.getElem?_eq_getElem hkn⟩
        obtain ⟨y, hy⟩ : ∃ y, M[k]? = some y := ⟨_, List.getElem?_eq_getElem (by have := HLEN.out; omega)⟩
        have h1 := flat_at cI 1 (fun _ => rfl) L k x hx 0 (by omega)
        have h2 := flat_at cI 1 (fun _ => rfl) M k y hy 0 (by omega)
        obtain ⟨ad, hA, e1⟩ := HR.out.below H.out.2 _ _ h1
        obtain ⟨bd, hC, e2⟩ := HQ.out.below H.out.2 _ _ h2
        simp only [Nat.mul_one, Nat.add_zero] at e1 e2
        subst hA; subst hC
        clear h1 h2
        by_cases hxy : x = y
        · subst hxy
          have hn := take_eq_next H.out.1 hx hy
          have HN := Lib.hid hn
          clear hx hy hn
          go_wp2
          go_quiet (fail)
          go_wp2
          go_roundw
          case rel => exact ⟨k + 1, by omega, by go_num, Lib.hid ⟨HN.out, G.bdrewN H.out.2 _⟩⟩
          case measure => simp [intOf]; omega
        · have hn := take_ne hx hy hxy
          have HN := Lib.hid hn
          have hf : (x == y) = false := by simpa using hxy
          clear hx hy hn hxy
          go_wp2
          go_quiet (fail)
          go_wp2
          go_ret
          exact ⟨by rw [decide_eq_false HN.out]; rfl, G.bdrewN H.out.2 _⟩
      · obtain rfl : k = L.length := by omega
        have he : L = M := by
          have := H.out.1
          rwa [List.take_length, HLEN.out, List.take_length] at this
        have HE := Lib.hid he
        clear he
        go_wp2
        go_ret
        exact ⟨by rw [decide_eq_true HE.out]; rfl, H.out.2⟩
  · have hd : ((L.length : Int) != (M.length : Int)) = true := by simp; omega
    have hn : ¬ L = M := fun e => hlen (by rw [e])
    have HN := Lib.hid hn
    clear hn hlen
    go_enter Try.func45, Try.ntmps45
    go_wp2
    go_ret
    exact ⟨by rw [decide_eq_false HN.out]; rfl, Below.refl _ _⟩

set_option maxRecDepth 100000 in
set_option maxHeartbeats 2000000 in
theorem eqrstr_any (L M : List ByteArray) (A C : Option Addr) (c d : Nat) (hL : L.length ≤ 1000000) (w : World) (hr : RowR w A (L.flatMap cS)) (hq : RowR w C (M.flatMap cS)) :
    Calls Try.prog 38 #[.slice A L.length c, .slice C M.length d] w fun e w' => e = .returned (.bool (decide (L = M))) ∧ Below w.heap.size w w' := by
  have HR := Lib.hid hr
  have HQ := Lib.hid hq
  clear hr hq
  by_cases hlen : L.length = M.length
  · have hd : ((L.length : Int) != (M.length : Int)) = false := by simp [hlen]
    have HLEN := Lib.hid hlen
    have hMl : (M.length : Int) = L.length := by omega
    rw [← hlen]
    clear hlen hd hMl
    go_enter Try.func38, Try.ntmps38
    go_wp2
    go_loopw [5] (fun i wr => ∃ k : Nat, k ≤ L.length ∧ i = .int .i64 k ∧ Hid (L.take k = M.take k ∧ Below w.heap.size w wr)) (fun i _ => L.length - (intOf i).toNat)
    case atStart => exact ⟨0, Nat.zero_le _, rfl, Lib.hid ⟨by simp, Below.refl _ _⟩⟩
    case round =>
      obtain ⟨k, hk, rfl, H⟩ := hrel
      by_cases hkn : k < L.length
      · obtain ⟨x, hx⟩ : ∃ x, L[k]? = some x := ⟨_, List.getElem?_eq_getElem hkn⟩
        obtain ⟨y, hy⟩ : ∃ y, M[k]? = some y := ⟨_, List.getElem?_eq_getElem (by have := HLEN.out; omega)⟩
        have h1 := flat_at cS 1 (fun _ => rfl) L k x hx 0 (by omega)
        have h2 := flat_at cS 1 (fun _ => rfl) M k y hy 0 (by omega)
        obtain ⟨ad, hA, e1⟩ := HR.out.below H.out.2 _ _ h1
        obtain ⟨bd, hC, e2⟩ := HQ.out.below H.out.2 _ _ h2
        simp only [Nat.mul_one, Nat.add_zero] at e1 e2
        subst hA; subst hC
        clear h1 h2
        by_cases hxy : x = y
        · subst hxy
          have hn := take_eq_next H.out.1 hx hy
          have HN := Lib.hid hn
          clear hx hy hn
          go_wp2
          go_quiet (fail)
          go_wp2
          go_roundw
          case rel => exact ⟨k + 1, by omega, by go_num, Lib.hid ⟨HN.out, G.bdrewN H.out.2 _⟩⟩
          case measure => simp [intOf]; omega
        · have hn := take_ne hx hy hxy
          have HN := Lib.hid hn
          have hf := str_ne hxy
          clear hx hy hn hxy
          go_wp2
          go_quiet (fail)
          go_wp2
          go_ret
          exact ⟨by rw [decide_eq_false HN.out]; rfl, G.bdrewN H.out.2 _⟩
      · obtain rfl : k = L.length := by omega
        have he : L = M := by
          have := H.out.1
          rwa [List.take_length, HLEN.out, List.take_length] at this
        have HE := Lib.hid he
        clear he
        go_wp2
        go_ret
        exact ⟨by rw [decide_eq_true HE.out]; rfl, H.out.2⟩
  · have hd : ((L.length : Int) != (M.length : Int)) = true := by simp; omega
    have hn : ¬ L = M := fun e => hlen (by rw [e])
    have HN := Lib.hid hn
    clear hn hlen
    go_enter Try.func38, Try.ntmps38
    go_wp2
    go_ret
    exact ⟨by rw [decide_eq_false HN.out]; rfl, Below.refl _ _⟩

set_option maxRecDepth 100000 in
set_option maxHeartbeats 2000000 in
theorem eqpair_any (L M : List (ByteArray × ByteArray)) (A C : Option Addr) (c d : Nat) (hL : L.length ≤ 1000000) (w : World) (hr : RowR w A (L.flatMap cP)) (hq : RowR w C (M.flatMap cP)) :
    Calls Try.prog 44 #[.slice A L.length c, .slice C M.length d] w fun e w' => e = .returned (.bool (decide (L = M))) ∧ Below w.heap.size w w' := by
  have HR := Lib.hid hr
  have HQ := Lib.hid hq
  clear hr hq
  by_cases hlen : L.length = M.length
  · have hd : ((L.length : Int) != (M.length : Int)) = false := by simp [hlen]
    have HLEN := Lib.hid hlen
    have hMl : (M.length : Int) = L.length := by omega
    rw [← hlen]
    clear hlen hd hMl
    go_enter Try.func44, Try.ntmps44
    go_wp2
    go_loopw [13] (fun i wr => ∃ k : Nat, k ≤ L.length ∧ i = .int .i64 k ∧ Hid (L.take k = M.take k ∧ Below w.heap.size w wr)) (fun i _ => L.length - (intOf i).toNat)
    case atStart => exact ⟨0, Nat.zero_le _, rfl, Lib.hid ⟨by simp, Below.refl _ _⟩⟩
    case round =>
      obtain ⟨k, hk, rfl, H⟩ := hrel
      by_cases hkn : k < L.length
      · obtain ⟨x, hx⟩ : ∃ x, L[k]? = some x := ⟨_, List.getElem?_eq_getElem hkn⟩
        obtain ⟨y, hy⟩ : ∃ y, M[k]? = some y := ⟨_, List.getElem?_eq_getElem (by have := HLEN.out; omega)⟩
        have h1 := flat_at cP 2 (fun _ => rfl) L k x hx 0 (by omega)
        have h2 := flat_at cP 2 (fun _ => rfl) M k y hy 0 (by omega)
        have h3 := flat_at cP 2 (fun _ => rfl) L k x hx 1 (by omega)
        have h4 := flat_at cP 2 (fun _ => rfl) M k y hy 1 (by omega)
        obtain ⟨ad, hA, e1⟩ := HR.out.below H.out.2 _ _ h1
        obtain ⟨bd, hC, e2⟩ := HQ.out.below H.out.2 _ _ h2
        obtain ⟨ad', hA', e3⟩ := HR.out.below H.out.2 _ _ h3
        obtain ⟨bd', hC', e4⟩ := HQ.out.below H.out.2 _ _ h4
        simp only [Nat.add_zero] at e1 e2
        subst hA; subst hC
        obtain rfl : ad = ad' := by simpa using hA'
        obtain rfl : bd = bd' := by simpa using hC'
        rw [← addadd] at e3 e4
        have f3 : wr.cell? ⟨(ad.add (k * 2)).block, (ad.add (k * 2)).off + 1, none⟩ = some (.string x.2) := e3
        have f4 : wr.cell? ⟨(bd.add (k * 2)).block, (bd.add (k * 2)).off + 1, none⟩ = some (.string y.2) := e4
        clear h1 h2 h3 h4 e3 e4 hA' hC' 
        by_cases hxy : x = y
        · subst hxy
          have hn := take_eq_next H.out.1 hx hy
          have HN := Lib.hid hn
          clear hx hy hn
          have heq := run_ne_pair x x false (by simp)
          go_wp2
          go_quiet (fail)
          go_wp2
          go_roundw
          case rel => exact ⟨k + 1, by omega, by go_num, Lib.hid ⟨HN.out, G.bdrewN H.out.2 _⟩⟩
          case measure => simp [intOf]; omega
        · have hn := take_ne hx hy hxy
          have HN := Lib.hid hn
          have heq := run_ne_pair x y true (by rw [decide_eq_false hxy]; rfl)
          clear hx hy hn hxy
          go_wp2
          go_quiet (fail)
          go_wp2
          go_ret
          exact ⟨by rw [decide_eq_false HN.out]; rfl, G.bdrewN H.out.2 _⟩
      · obtain rfl : k = L.length := by omega
        have he : L = M := by
          have := H.out.1
          rwa [List.take_length, HLEN.out, List.take_length] at this
        have HE := Lib.hid he
        clear he
        go_wp2
        go_ret
        exact ⟨by rw [decide_eq_true HE.out]; rfl, H.out.2⟩
  · have hd : ((L.length : Int) != (M.length : Int)) = true := by simp; omega
    have hn : ¬ L = M := fun e => hlen (by rw [e])
    have HN := Lib.hid hn
    clear hn hlen
    go_enter Try.func44, Try.ntmps44
    go_wp2
    go_ret
    exact ⟨by rw [decide_eq_false HN.out]; rfl, Below.refl _ _⟩

set_option maxRecDepth 100000 in
set_option maxHeartbeats 2000000 in
theorem eqrpair_any (L M : List (ByteArray × ByteArray)) (A C : Option Addr) (c d : Nat) (hL : L.length ≤ 1000000) (w : World) (hr : RowR w A (L.flatMap cP)) (hq : RowR w C (M.flatMap cP)) :
    Calls Try.prog 39 #[.slice A L.length c, .slice C M.length d] w fun e w' => e = .returned (.bool (decide (L = M))) ∧ Below w.heap.size w w' := by
  have HR := Lib.hid hr
  have HQ := Lib.hid hq
  clear hr hq
  by_cases hlen : L.length = M.length
  · have hd : ((L.length : Int) != (M.length : Int)) = false := by simp [hlen]
    have HLEN := Lib.hid hlen
    have hMl : (M.length : Int) = L.length := by omega
    rw [← hlen]
    clear hlen hd hMl
    go_enter Try.func39, Try.ntmps39
    go_wp2
    go_loopw [5] (fun i wr => ∃ k : Nat, k ≤ L.length ∧ i = .int .i64 k ∧ Hid (L.take k = M.take k ∧ Below w.heap.size w wr)) (fun i _ => L.length - (intOf i).toNat)
    case atStart => exact ⟨0, Nat.zero_le _, rfl, Lib.hid ⟨by simp, Below.refl _ _⟩⟩
    case round =>
      obtain ⟨k, hk, rfl, H⟩ := hrel
      by_cases hkn : k < L.length
      · obtain ⟨x, hx⟩ : ∃ x, L[k]? = some x := ⟨_, List.getElem?_eq_getElem hkn⟩
        obtain ⟨y, hy⟩ : ∃ y, M[k]? = some y := ⟨_, List.getElem?_eq_getElem (by have := HLEN.out; omega)⟩
        have h1 := flat_at cP 2 (fun _ => rfl) L k x hx 0 (by omega)
        have h2 := flat_at cP 2 (fun _ => rfl) M k y hy 0 (by omega)
        have h3 := flat_at cP 2 (fun _ => rfl) L k x hx 1 (by omega)
        have h4 := flat_at cP 2 (fun _ => rfl) M k y hy 1 (by omega)
        obtain ⟨ad, hA, e1⟩ := HR.out.below H.out.2 _ _ h1
        obtain ⟨bd, hC, e2⟩ := HQ.out.below H.out.2 _ _ h2
        obtain ⟨ad', hA', e3⟩ := HR.out.below H.out.2 _ _ h3
        obtain ⟨bd', hC', e4⟩ := HQ.out.below H.out.2 _ _ h4
        simp only [Nat.add_zero] at e1 e2
        subst hA; subst hC
        obtain rfl : ad = ad' := by simpa using hA'
        obtain rfl : bd = bd' := by simpa using hC'
        rw [← addadd] at e3 e4
        have f3 : wr.cell? ⟨(ad.add (k * 2)).block, (ad.add (k * 2)).off + 1, none⟩ = some (.string x.2) := e3
        have f4 : wr.cell? ⟨(bd.add (k * 2)).block, (bd.add (k * 2)).off + 1, none⟩ = some (.string y.2) := e4
        clear h1 h2 h3 h4 e3 e4 hA' hC' 
        by_cases hxy : x = y
        · subst hxy
          have hn := take_eq_next H.out.1 hx hy
          have HN := Lib.hid hn
          clear hx hy hn
          have heq := run_ne_pair x x false (by simp)
          go_wp2
          go_quiet (fail)
          go_wp2
          go_roundw
          case rel => exact ⟨k + 1, by omega, by go_num, Lib.hid ⟨HN.out, G.bdrewN H.out.2 _⟩⟩
          case measure => simp [intOf]; omega
        · have hn := take_ne hx hy hxy
          have HN := Lib.hid hn
          have heq := run_ne_pair x y true (by rw [decide_eq_false hxy]; rfl)
          clear hx hy hn hxy
          go_wp2
          go_quiet (fail)
          go_wp2
          go_ret
          exact ⟨by rw [decide_eq_false HN.out]; rfl, G.bdrewN H.out.2 _⟩
      · obtain rfl : k = L.length := by omega
        have he : L = M := by
          have := H.out.1
          rwa [List.take_length, HLEN.out, List.take_length] at this
        have HE := Lib.hid he
        clear he
        go_wp2
        go_ret
        exact ⟨by rw [decide_eq_true HE.out]; rfl, H.out.2⟩
  · have hd : ((L.length : Int) != (M.length : Int)) = true := by simp; omega
    have hn : ¬ L = M := fun e => hlen (by rw [e])
    have HN := Lib.hid hn
    clear hn hlen
    go_enter Try.func39, Try.ntmps39
    go_wp2
    go_ret
    exact ⟨by rw [decide_eq_false HN.out]; rfl, Below.refl _ _⟩
end Go.Proofs.Ytmbmnldheilffaa
