/- Plain laws of packing and reading objects. No program. -/
import Derived.Test.YtolndeolehkjoaaCodR
namespace Go.Proofs.Ytolndeolehkjoaa.CodP
set_option linter.unusedVariables false
set_option linter.unusedSimpArgs false
def zeroOb : Ob := ⟨0, ⟨#[]⟩, 0, 0, false, [], [], [], ⟨#[]⟩, 0, 0, [], [], ⟨#[]⟩, ⟨#[]⟩, 0, ⟨#[]⟩, ⟨#[]⟩, ⟨#[]⟩⟩
def bytesS (o : Ob) : ByteArray := ofBL (obC.enc o)
def firstS (s : ByteArray) : Ob × Nat × Int := if (obI s (0, 0)).2.2 ≠ 0 then (zeroOb, 0, (obI s (0, 0)).2.2) else ((obI s (0, 0)).1, (obI s (0, 0)).2.1, 0)
theorem bytesS_size (o : Ob) : (bytesS o).size = (obC.enc o).length := by rw [← BL_length, bytesS, BL_ofBL]
theorem first_dec (s : ByteArray) : match obC.dec (BL s) with
    | .ok o _ => firstS s = (o, (bytesS o).size, 0) ∧ shape o = true ∧ (bytesS o).size ≤ s.size ∧ s.extract 0 (bytesS o).size = bytesS o
    | .bad e => firstS s = (zeroOb, 0, e) ∧ (e = 3 ∨ e = 4) := by
  have h := ob_sim s
  cases hd : obC.dec (BL s) with
  | ok o t =>
    have h0 := h.ok 0 o t (Nat.zero_le _) (by simpa using hd)
    obtain ⟨g, he⟩ := obC.C _ _ _ hd
    have hl := congrArg List.length he
    rw [BL_length, List.length_append, ← bytesS_size] at hl
    simp only [firstS, h0, ne_eq, not_true, if_false, Nat.zero_add]
    refine ⟨by rw [bytesS_size], (obC_good o).1 g, by omega, ?_⟩
    apply BL_inj
    rw [BL_extract, List.drop_zero, he, bytesS_size, List.take_left, bytesS, BL_ofBL]
  | bad e =>
    have h0 := h.bad 0 e (Nat.zero_le _) (by simpa using hd)
    have hne := bad_ne obC hd
    simp only [firstS, h0]
    rw [if_pos hne]
    exact ⟨rfl, obC.E _ _ hd⟩
theorem first_back (o : Ob) (h : shape o = true) (t : ByteArray) : firstS (bytesS o ++ t) = (o, (bytesS o).size, 0) := by
  have hd := obC.R o (BL t) ((obC_good o).2 h)
  have := first_dec (bytesS o ++ t)
  rw [BL_append, bytesS, BL_ofBL, hd] at this
  exact this.1
theorem first_short (o : Ob) (h : shape o = true) (n : Nat) (hn : n < (bytesS o).size) : firstS ((bytesS o).extract 0 n) = (zeroOb, 0, 3) := by
  have hs : obC.dec (BL ((bytesS o).extract 0 n)) = .bad 3 := by
    rw [BL_extract, List.drop_zero, bytesS, BL_ofBL]
    refine obC.S o _ ((obC.enc o).drop n) ((obC_good o).2 h) (List.take_append_drop n _).symm ?_
    intro hx
    have := congrArg List.length hx
    rw [List.length_drop, List.length_nil] at this
    rw [bytesS_size] at hn
    omega
  have := first_dec ((bytesS o).extract 0 n)
  rw [hs] at this
  exact this.1
theorem first_ok (s : ByteArray) (h : (firstS s).2.2 = 0) : shape (firstS s).1 = true ∧ (firstS s).2.1 = (bytesS (firstS s).1).size ∧ (firstS s).2.1 ≤ s.size ∧ s.extract 0 (firstS s).2.1 = bytesS (firstS s).1 := by
  have := first_dec s
  cases hd : obC.dec (BL s) with
  | ok o t =>
    rw [hd] at this
    obtain ⟨h1, h2, h3, h4⟩ := this
    rw [h1]
    exact ⟨h2, rfl, h3, h4⟩
  | bad e =>
    rw [hd] at this
    obtain ⟨h1, h2⟩ := this
    rw [h1] at h
    simp only at h
    omega
theorem first_bad (s : ByteArray) (h : (firstS s).2.2 ≠ 0) : (firstS s).1 = zeroOb ∧ (firstS s).2.1 = 0 ∧ ((firstS s).2.2 = 3 ∨ (firstS s).2.2 = 4) := by
  have := first_dec s
  cases hd : obC.dec (BL s) with
  | ok o t =>
    rw [hd] at this
    rw [this.1] at h
    exact absurd rfl h
  | bad e =>
    rw [hd] at this
    obtain ⟨h1, h2⟩ := this
    rw [h1]
    exact ⟨rfl, rfl, h2⟩
theorem bytesS_pos (o : Ob) : 0 < (bytesS o).size := by
  rw [bytesS_size]
  simp only [obC, mapC, headC, bindC, kindC, keepC, smallC, byteC, List.length_append, List.length_cons, List.length_nil]
  omega
def unpackS (s : ByteArray) : Ob × Int := if (firstS s).2.2 ≠ 0 ∨ (firstS s).2.1 ≠ s.size then (zeroOb, 4) else ((firstS s).1, 0)
theorem append_nil (s : ByteArray) : s ++ (⟨#[]⟩ : ByteArray) = s := by apply BL_inj; rw [BL_append]; simp [BL]
theorem nil_append (s : ByteArray) : (⟨#[]⟩ : ByteArray) ++ s = s := by apply BL_inj; rw [BL_append]; rfl
theorem append_assoc3 (a b c : ByteArray) : a ++ b ++ c = a ++ (b ++ c) := by apply BL_inj; simp [BL_append]
theorem unpack_back (o : Ob) (h : shape o = true) (t : ByteArray) : unpackS (bytesS o ++ t) = if t.size = 0 then (o, 0) else (zeroOb, 4) := by
  simp only [unpackS, first_back o h t, ByteArray.size_append, ne_eq, not_true, false_or]
  by_cases ht : t.size = 0
  · rw [if_neg (by omega), if_pos ht]
  · rw [if_pos (by omega), if_neg ht]
/-- a list's bytes -/
def bytesAll : List Ob → ByteArray
  | [] => ⟨#[]⟩
  | o :: l => bytesS o ++ bytesAll l
theorem bytesAll_snoc (l : List Ob) (o : Ob) : bytesAll (l ++ [o]) = bytesAll l ++ bytesS o := by
  induction l with
  | nil => simp [bytesAll, append_nil, nil_append]
  | cons a l ih => simp [bytesAll, ih, append_assoc3]
/-- the bytes from a place on -/
def fromS (s : ByteArray) (i : Nat) : ByteArray := s.extract i s.size
theorem fromS_size (s : ByteArray) (i : Nat) : (fromS s i).size = s.size - i := by unfold fromS; rw [ByteArray.size_extract]; omega
theorem fromS_from (s : ByteArray) (i j : Nat) : fromS (fromS s i) j = fromS s (i + j) := by
  apply BL_inj
  simp only [fromS, BL_extract, ByteArray.size_extract]
  rw [List.take_of_length_le (by rw [List.length_drop, List.length_take, BL_length]; omega)]
  rw [List.drop_drop]
theorem fromS_zero (s : ByteArray) : fromS s 0 = s := by
  apply BL_inj
  rw [fromS, BL_extract, ← BL_length, List.take_length]
  rfl
theorem split_at (s : ByteArray) (n : Nat) : s = s.extract 0 n ++ fromS s n := by
  apply BL_inj
  rw [BL_append, BL_extract, fromS, BL_extract, List.drop_zero, ← BL_length, List.take_length, List.take_append_drop]
/-- objects one behind the other: what is read, and whether -/
def allG : Nat → ByteArray → Option (List Ob)
  | 0, s => if s.size = 0 then some [] else none
  | k + 1, s => if s.size = 0 then some [] else if (firstS s).2.2 ≠ 0 then none else (allG k (fromS s (firstS s).2.1)).map fun l => (firstS s).1 :: l
def allS (s : ByteArray) : Option (List Ob) := allG s.size s
theorem allG_more : ∀ (k j : Nat) (s : ByteArray), s.size ≤ k → s.size ≤ j → allG k s = allG j s := by
  intro k
  induction k with
  | zero =>
    intro j s h _
    have h0 : s.size = 0 := by omega
    cases j <;> simp [allG, h0]
  | succ k ih =>
    intro j s h1 h2
    by_cases h0 : s.size = 0
    · cases j <;> simp [allG, h0]
    · cases j with
      | zero => omega
      | succ j =>
        simp only [allG, if_neg h0]
        by_cases he : (firstS s).2.2 ≠ 0
        · rw [if_pos he, if_pos he]
        · rw [if_neg he, if_neg he]
          have hok := first_ok s (by simpa using he)
          have hp := bytesS_pos (firstS s).1
          have hz := fromS_size s (firstS s).2.1
          rw [ih j _ (by omega) (by omega)]
theorem allS_nil (s : ByteArray) (h : s.size = 0) : allS s = some [] := by
  unfold allS; rw [h]; simp [allG, h]
theorem allS_bad (s : ByteArray) (h : s.size ≠ 0) (he : (firstS s).2.2 ≠ 0) : allS s = none := by
  unfold allS
  obtain ⟨k, hk⟩ : ∃ k, s.size = k + 1 := ⟨s.size - 1, by omega⟩
  rw [hk]; simp only [allG, if_neg h]; rw [if_pos he]
theorem allS_step (s : ByteArray) (h : s.size ≠ 0) (he : (firstS s).2.2 = 0) : allS s = (allS (fromS s (firstS s).2.1)).map fun l => (firstS s).1 :: l := by
  unfold allS
  obtain ⟨k, hk⟩ : ∃ k, s.size = k + 1 := ⟨s.size - 1, by omega⟩
  have hok := first_ok s he
  have hp := bytesS_pos (firstS s).1
  have hz := fromS_size s (firstS s).2.1
  rw [hk]; simp only [allG, if_neg h]; rw [if_neg (by simpa using he)]
  rw [allG_more k (fromS s (firstS s).2.1).size _ (by omega) (Nat.le_refl _)]
theorem allS_back : ∀ l : List Ob, (∀ o ∈ l, shape o = true) → allS (bytesAll l) = some l := by
  intro l
  induction l with
  | nil => intro _; exact allS_nil _ rfl
  | cons o l ih =>
    intro h
    have hf := first_back o (h o (by simp)) (bytesAll l)
    have hp := bytesS_pos o
    rw [allS_step (bytesAll (o :: l)) (by simp only [bytesAll, ByteArray.size_append]; omega) (by simp only [bytesAll]; rw [hf])]
    simp only [bytesAll]
    rw [hf]
    simp only
    have : fromS (bytesS o ++ bytesAll l) (bytesS o).size = bytesAll l := by
      apply BL_inj
      rw [fromS, BL_extract, ← BL_length (bytesS o ++ bytesAll l), List.take_length, BL_append, ← BL_length (bytesS o), List.drop_left]
    rw [this, ih fun x hx => h x (by simp [hx])]
    rfl
theorem allS_ok : ∀ (k : Nat) (s : ByteArray) (l : List Ob), s.size ≤ k → allS s = some l → (∀ o ∈ l, shape o = true) ∧ bytesAll l = s := by
  intro k
  induction k with
  | zero =>
    intro s l h hl
    have h0 : s.size = 0 := by omega
    rw [allS_nil s h0] at hl
    injection hl with hl
    subst hl
    exact ⟨by simp, (size0.1 h0).symm⟩
  | succ k ih =>
    intro s l h hl
    by_cases h0 : s.size = 0
    · rw [allS_nil s h0] at hl
      injection hl with hl
      subst hl
      exact ⟨by simp, (size0.1 h0).symm⟩
    · by_cases he : (firstS s).2.2 = 0
      · have hok := first_ok s he
        have hp := bytesS_pos (firstS s).1
        have hz := fromS_size s (firstS s).2.1
        rw [allS_step s h0 he] at hl
        obtain ⟨m, hm, rfl⟩ := Option.map_eq_some_iff.1 hl
        obtain ⟨h1, h2⟩ := ih _ m (by omega) hm
        refine ⟨?_, ?_⟩
        · intro o ho
          rcases List.mem_cons.1 ho with rfl | ho
          · exact hok.1
          · exact h1 o ho
        · simp only [bytesAll]
          rw [h2, ← hok.2.2.2]
          exact (split_at s _).symm
      · rw [allS_bad s h0 he] at hl; cases hl
end Go.Proofs.Ytolndeolehkjoaa.CodP
