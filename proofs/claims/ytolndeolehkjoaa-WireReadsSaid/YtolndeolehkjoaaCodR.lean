/- Plain laws: what a reader of bytes does step by step is what the bytes say. No program. -/
import Derived.Test.YtolndeolehkjoaaCodQ
namespace Go.Proofs.Ytolndeolehkjoaa.CodP
set_option linter.unusedVariables false
set_option linter.unusedSimpArgs false
/-- where a reader stands, and what is amiss -/
abbrev RSt := Nat × Int
def takeI (s : ByteArray) (n : Nat) (st : RSt) : ByteArray × RSt :=
  if st.2 ≠ 0 then (⟨#[]⟩, st) else if s.size - st.1 < n then (⟨#[]⟩, (st.1, 3)) else (s.extract st.1 (st.1 + n), (st.1 + n, 0))
def byte0 (x : ByteArray) : Int := ((BL x).headD 0).toNat
def failI (e : Int) (st : RSt) : RSt := if st.2 = 0 then (st.1, e) else st
def smallK (most : Int) (x : ByteArray × RSt) : Int × RSt :=
  if x.1.size = 0 then (0, x.2) else if byte0 x.1 > most then (0, failI 4 x.2) else (byte0 x.1, x.2)
def smallI (s : ByteArray) (most : Int) (st : RSt) : Int × RSt := smallK most (takeI s 1 st)
def textI (s : ByteArray) (st : RSt) : ByteArray × RSt := takeI s (smallI s 200 st).1.toNat (smallI s 200 st).2
/-- what eight bytes say, and whether they do -/
def numOf (x : ByteArray) : Int × Int := if x.size ≠ 8 then (0, 4) else if be8 x > 4611686018427387904 then (0, 4) else (be8 x, 0)
def numK (x : ByteArray × RSt) : Int × RSt :=
  if x.1.size = 0 then (0, x.2) else if (numOf x.1).2 ≠ 0 ∨ (numOf x.1).1 > 1099511627776 then ((numOf x.1).1, failI 4 x.2) else ((numOf x.1).1, x.2)
def numI (s : ByteArray) (st : RSt) : Int × RSt := numK (takeI s 8 st)
def loopI {α : Type} (one : RSt → α × RSt) : Nat → List α → RSt → List α × RSt
  | 0, acc, st => (acc, st)
  | k + 1, acc, st => if st.2 ≠ 0 then (acc, st) else loopI one k (acc ++ [(one st).1]) (one st).2
def listI {α : Type} (one : RSt → α × RSt) (s : ByteArray) (most : Int) (st : RSt) : List α × RSt :=
  loopI one (smallI s most st).1.toNat [] (smallI s most st).2
def kindK (x : Int × RSt) : RSt := if x.1 = 0 then failI 4 x.2 else x.2
def kindI (s : ByteArray) (st : RSt) : Int × RSt := ((smallI s 4 st).1, kindK (smallI s 4 st))
def truthI (s : ByteArray) (st : RSt) : Bool × RSt := ((smallI s 1 st).1 == 1, (smallI s 1 st).2)
def bindI {α β : Type} (f : RSt → α × RSt) (g : α → RSt → β × RSt) (st : RSt) : (α × β) × RSt := (((f st).1, (g (f st).1 (f st).2).1), (g (f st).1 (f st).2).2)
def mapI {α β : Type} (f : RSt → α × RSt) (h : α → β) (st : RSt) : β × RSt := (h (f st).1, (f st).2)
def pairI (s : ByteArray) : RSt → (ByteArray × ByteArray) × RSt := bindI (textI s) fun _ => textI s
def tail1I (s : ByteArray) : RSt → Tl × RSt := mapI (bindI (listI (textI s) s 8) fun _ => textI s) fun x => { cidrs := x.1, status := x.2 }
def tail2I (s : ByteArray) : RSt → Tl × RSt := mapI (bindI (smallI s 255) fun _ => bindI (smallI s 255) fun _ => bindI (listI (smallI s 255) s 8) fun _ => listI (textI s) s 8) fun x => { type := x.1, policy := x.2.1, fams := x.2.2.1, ips := x.2.2.2 }
def tail3I (s : ByteArray) : RSt → Tl × RSt := mapI (bindI (textI s) fun _ => bindI (textI s) fun _ => bindI (smallI s 255) fun _ => textI s) fun x => { v4 := x.1, v6 := x.2.1, bits := x.2.2.1, sel := x.2.2.2 }
def tail4I (s : ByteArray) : RSt → Tl × RSt := mapI (bindI (textI s) fun _ => textI s) fun x => { about := x.1, reason := x.2 }
def tailI (s : ByteArray) (k : Int) : RSt → Tl × RSt := if k = 1 then tail1I s else if k = 2 then tail2I s else if k = 3 then tail3I s else if k = 4 then tail4I s else fun st => ({}, st)
def headI (s : ByteArray) : RSt → Hd × RSt := bindI (kindI s) fun k => bindI (textI s) fun _ => bindI (numI s) fun _ => bindI (numI s) fun _ => bindI (truthI s) fun _ => bindI (listI (textI s) s 4) fun _ => bindI (listI (pairI s) s 16) fun _ => tailI s k
def obI (s : ByteArray) : RSt → Ob × RSt := mapI (headI s) ofHd
/-- the steps do what the bytes say -/
structure Sim {α : Type} (s : ByteArray) (f : RSt → α × RSt) (c : Cod α) : Prop where
  stay : ∀ a e, e ≠ 0 → (f (a, e)).2 = (a, e)
  ok : ∀ i a t, i ≤ s.size → c.dec ((BL s).drop i) = .ok a t → f (i, 0) = (a, (i + (c.enc a).length, 0))
  bad : ∀ i e, i ≤ s.size → c.dec ((BL s).drop i) = .bad e → (f (i, 0)).2.2 = e
theorem drop_ok {α : Type} (c : Cod α) {s : ByteArray} {i : Nat} {a : α} {t : List UInt8} (hi : i ≤ s.size) (h : c.dec ((BL s).drop i) = .ok a t) : i + (c.enc a).length ≤ s.size ∧ t = (BL s).drop (i + (c.enc a).length) := by
  obtain ⟨_, he⟩ := c.C _ _ _ h
  have h1 := congrArg List.length he
  rw [List.length_drop, BL_length, List.length_append] at h1
  refine ⟨by omega, ?_⟩
  rw [← List.drop_drop, he, List.drop_left]
theorem bad_ne {α : Type} (c : Cod α) {l : List UInt8} {e : Int} (h : c.dec l = .bad e) : e ≠ 0 := by
  rcases c.E _ _ h with rfl | rfl <;> decide
theorem Sim.bind {α β : Type} {s : ByteArray} {f : RSt → α × RSt} {g : α → RSt → β × RSt} {c : Cod α} {d : α → Cod β} (h : Sim s f c) (k : ∀ a, Sim s (g a) (d a)) : Sim s (bindI f g) (bindC c d) where
  stay a e he := by
    show (g (f (a, e)).1 (f (a, e)).2).2 = _
    rw [h.stay a e he, (k _).stay a e he]
  ok i x t hi hd := by
    obtain ⟨a, b⟩ := x
    simp only [bindC, bindD] at hd
    split at hd
    · rename_i a' u h1
      split at hd
      · rename_i b' v h2
        injection hd with h3 h4
        injection h3 with h5 h6
        subst h5; subst h6; subst h4
        obtain ⟨hle, rfl⟩ := drop_ok c hi h1
        have e1 := h.ok _ _ _ hi h1
        have e2 := (k a').ok _ _ _ hle h2
        simp only [bindI, e1, e2, bindC, List.length_append, Nat.add_assoc]
      · cases hd
    · cases hd
  bad i e hi hd := by
    simp only [bindC, bindD] at hd
    split at hd
    · rename_i a' u h1
      split at hd
      · cases hd
      · rename_i e' h2
        injection hd with h3
        subst h3
        obtain ⟨hle, rfl⟩ := drop_ok c hi h1
        have e1 := h.ok _ _ _ hi h1
        have e2 := (k a').bad _ _ hle h2
        simp only [bindI, e1, e2]
    · rename_i e' h1
      injection hd with h3
      subst h3
      have e1 := h.bad _ _ hi h1
      have hne := bad_ne c h1
      obtain ⟨⟨v, ⟨j, e2⟩⟩, hf⟩ : ∃ x, x = f (i, 0) := ⟨_, rfl⟩
      rw [← hf] at e1
      simp only at e1
      subst e1
      simp only [bindI, ← hf, (k v).stay j _ hne]
theorem Sim.map {α β : Type} {s : ByteArray} {f : RSt → α × RSt} {c : Cod α} {p : α → β} {q : β → α} {hq : ∀ a, c.good a → q (p a) = a} (h : Sim s f c) : Sim s (mapI f p) (mapC c p q hq) where
  stay a e he := h.stay a e he
  ok i x t hi hd := by
    simp only [mapC, mapD] at hd
    split at hd
    · rename_i a u h1
      injection hd with h3 h4
      subst h3; subst h4
      obtain ⟨g1, _⟩ := c.C _ _ _ h1
      simp only [mapI, h.ok _ _ _ hi h1, mapC, hq a g1]
    · cases hd
  bad i e hi hd := by
    simp only [mapC, mapD] at hd
    split at hd
    · cases hd
    · rename_i e' h1
      injection hd with h3
      subst h3
      exact h.bad _ _ hi h1
theorem drop_one (s : ByteArray) (i : Nat) (h : i < s.size) : (BL s).drop i = (BL s)[i]'(by rw [BL_length]; exact h) :: (BL s).drop (i + 1) := List.drop_eq_getElem_cons _
theorem take_sim (s : ByteArray) (n : Nat) : Sim s (takeI s n) (takeC n) where
  stay a e he := by simp [takeI, he]
  ok i x t hi hd := by
    simp only [takeC, List.length_drop, BL_length] at hd
    split at hd
    · cases hd
    · rename_i h1
      injection hd with h3 h4
      subst h3
      simp only [takeI, takeC, BL_ofBL, ne_eq, not_true, if_false]
      rw [if_neg (by omega), List.length_take, List.length_drop, BL_length, Nat.min_eq_left (by omega)]
      refine Prod.ext ?_ rfl
      apply BL_inj
      rw [BL_extract, BL_ofBL, List.drop_take]
      congr 1
      omega
  bad i e hi hd := by
    simp only [takeC, List.length_drop, BL_length] at hd
    split at hd
    · rename_i h1
      injection hd with h3
      simp only [takeI, ne_eq, not_true, if_false]
      rw [if_pos (by omega)]
      exact h3
    · cases hd
theorem small_sim (s : ByteArray) (m : Int) : Sim s (smallI s m) (smallC m) where
  stay a e he := by
    simp only [smallI, takeI, smallK]
    rw [if_pos he]
    rfl
  ok i x t hi hd := by
    simp only [smallC, keepC, keepD, byteC] at hd
    by_cases h : i < s.size
    · rw [drop_one s i h] at hd
      simp only at hd
      split at hd
      · rename_i hm
        injection hd with h3 h4
        have hx : byte0 (s.extract i (i + 1)) = x := by
          rw [← h3, byte0, BL_extract, List.drop_take, drop_one s i h, show i + 1 - i = 1 by omega]
          rfl
        have hz : (s.extract i (i + 1)).size = 1 := by rw [ByteArray.size_extract]; omega
        simp only [decide_eq_true_eq, h3] at hm
        simp only [smallI, takeI, ne_eq, not_true, if_false]
        rw [if_neg (by omega)]
        simp only [smallK]
        rw [if_neg (by omega), hx, if_neg (by omega)]
        rfl
      · cases hd
    · rw [List.drop_eq_nil_of_le (by rw [BL_length]; omega)] at hd
      simp only at hd
      cases hd
  bad i e hi hd := by
    simp only [smallC, keepC, keepD, byteC] at hd
    by_cases h : i < s.size
    · rw [drop_one s i h] at hd
      simp only at hd
      split at hd
      · cases hd
      · rename_i hm
        injection hd with h3
        have hx : byte0 (s.extract i (i + 1)) = ((BL s)[i]'(by rw [BL_length]; exact h)).toNat := by
          rw [byte0, BL_extract, List.drop_take, drop_one s i h, show i + 1 - i = 1 by omega]
          rfl
        have hz : (s.extract i (i + 1)).size = 1 := by rw [ByteArray.size_extract]; omega
        simp only [decide_eq_true_eq, ← hx] at hm
        simp only [smallI, takeI, ne_eq, not_true, if_false]
        rw [if_neg (by omega)]
        simp only [smallK]
        rw [if_neg (by omega), if_pos (by omega)]
        exact h3
    · rw [List.drop_eq_nil_of_le (by rw [BL_length]; omega)] at hd
      simp only [Out.bad.injEq] at hd
      simp only [smallI, takeI, ne_eq, not_true, if_false]
      rw [if_pos (by omega)]
      exact hd
theorem text_sim (s : ByteArray) : Sim s (textI s) textC := by
  have h : Sim s (mapI (bindI (smallI s 200) fun n => takeI s n.toNat) fun x => x.2) textC := Sim.map (Sim.bind (small_sim s 200) fun n => take_sim s n.toNat)
  exact h
theorem num_sim (s : ByteArray) : Sim s (numI s) numC where
  stay a e he := by
    simp only [numI, takeI, numK]
    rw [if_pos he]
    rfl
  ok i x t hi hd := by
    simp only [numC, keepC, keepD, mapC, mapD] at hd
    split at hd
    · rename_i v u h0
      split at h0
      · rename_i y z h1
        injection h0 with h01 h02
        subst h01; subst h02
        split at hd
        · rename_i hm
          injection hd with h3 h4
          subst h3; subst h4
          have e1 := (take_sim s 8).ok _ _ _ hi h1
          obtain ⟨g1, _⟩ := (takeC 8).C _ _ _ h1
          have hy : y.size = 8 := g1
          simp only [decide_eq_true_eq] at hm
          simp only [numI, e1, numK, hy, numOf, numC, keepC, mapC, takeC, BL_length, num8_size]
          have h40 : ¬ be8 y > 4611686018427387904 := by omega
          have h41 : ¬ ((be8 y : Int) > 1099511627776) := by omega
          simp [h40, h41]
        · cases hd
      · cases h0
    · cases hd
  bad i e hi hd := by
    simp only [numC, keepC, keepD, mapC, mapD] at hd
    split at hd
    · rename_i v u h0
      split at h0
      · rename_i y z h1
        injection h0 with h01 h02
        subst h01; subst h02
        split at hd
        · cases hd
        · rename_i hm
          injection hd with h3
          have e1 := (take_sim s 8).ok _ _ _ hi h1
          obtain ⟨g1, _⟩ := (takeC 8).C _ _ _ h1
          have hy : y.size = 8 := g1
          simp only [decide_eq_true_eq] at hm
          simp only [numI, e1, numK, hy, numOf, failI]
          by_cases h40 : be8 y > 4611686018427387904
          · subst h3; simp [h40]
          · have h41 : (be8 y : Int) > 1099511627776 := by omega
            subst h3; simp [h40, h41]
      · cases h0
    · rename_i e' h0
      injection hd with h3
      subst h3
      split at h0
      · cases h0
      · rename_i e'' h1
        injection h0 with h4
        subst h4
        have e1 := (take_sim s 8).bad _ _ hi h1
        simp only [takeC, List.length_drop, BL_length] at h1
        split at h1
        · rename_i h2
          simp only [numI, takeI, ne_eq, not_true, if_false]
          rw [if_pos (by omega)]
          injection h1 with h1
        · cases h1
theorem kind_sim (s : ByteArray) : Sim s (kindI s) kindC where
  stay a e he := by
    have := (small_sim s 4).stay a e he
    simp only [kindI, kindK, this, failI]
    split <;> simp [he]
  ok i x t hi hd := by
    simp only [kindC, keepC, keepD] at hd
    split at hd
    · rename_i v u h1
      split at hd
      · rename_i hm
        injection hd with h3 h4
        subst h3; subst h4
        simp only [decide_eq_true_eq] at hm
        simp only [kindI, (small_sim s 4).ok _ _ _ hi h1, kindK, kindC, keepC]
        rw [if_neg hm]
      · cases hd
    · cases hd
  bad i e hi hd := by
    simp only [kindC, keepC, keepD] at hd
    split at hd
    · rename_i v u h1
      split at hd
      · cases hd
      · rename_i hm
        injection hd with h3
        simp only [decide_eq_true_eq, ne_eq, Decidable.not_not] at hm
        simp only [kindI, (small_sim s 4).ok _ _ _ hi h1, kindK, failI, hm, if_true]
        exact h3
    · rename_i e' h1
      injection hd with h3
      subst h3
      have e1 := (small_sim s 4).bad _ _ hi h1
      have hne := bad_ne (smallC 4) h1
      simp only [kindI, kindK, failI]
      split
      · rw [if_neg (by rw [e1]; exact hne)]; exact e1
      · exact e1
theorem truth_sim (s : ByteArray) : Sim s (truthI s) truthC := by
  have h : Sim s (mapI (smallI s 1) fun n => n == 1) truthC := Sim.map (small_sim s 1)
  exact h
theorem loop_stay {α : Type} (one : RSt → α × RSt) (k : Nat) (acc : List α) (a : Nat) (e : Int) (he : e ≠ 0) : loopI one k acc (a, e) = (acc, (a, e)) := by
  cases k with
  | zero => rfl
  | succ k => simp [loopI, he]
theorem loop_sim {α : Type} {s : ByteArray} {one : RSt → α × RSt} {c : Cod α} (h : Sim s one c) : ∀ (k : Nat) (acc : List α) (i : Nat), i ≤ s.size →
    (∀ l t, (repC c k).1.dec ((BL s).drop i) = .ok l t → loopI one k acc (i, 0) = (acc ++ l, (i + ((repC c k).1.enc l).length, 0))) ∧
    (∀ e, (repC c k).1.dec ((BL s).drop i) = .bad e → (loopI one k acc (i, 0)).2.2 = e)
  | 0, acc, i, hi => by
      constructor
      · intro l t hd
        injection hd with h1 h2
        subst h1
        simp [loopI, repC, unitC]
      · intro e hd
        cases hd
  | k + 1, acc, i, hi => by
      have key : (repC c (k + 1)).1.dec ((BL s).drop i) = mapD (bindD c.dec fun _ => (repC c k).1.dec) (fun x => x.1 :: x.2) ((BL s).drop i) := rfl
      constructor
      · intro l t hd
        rw [key] at hd
        simp only [mapD, bindD] at hd
        split at hd
        · rename_i x u h0
          split at h0
          · rename_i a v h1
            split at h0
            · rename_i m z h2
              injection h0 with h3 h4
              subst h3; subst h4
              injection hd with h5 h6
              subst h5; subst h6
              obtain ⟨hle, rfl⟩ := drop_ok c hi h1
              have e1 := h.ok _ _ _ hi h1
              have e2 := (loop_sim h k (acc ++ [a]) _ hle).1 _ _ h2
              simp only [loopI, ne_eq, not_true, if_false, e1, e2]
              have : (repC c (k + 1)).1.enc (a :: m) = c.enc a ++ (repC c k).1.enc m := rfl
              simp [this, Nat.add_assoc]
            · cases h0
          · cases h0
        · cases hd
      · intro e hd
        rw [key] at hd
        simp only [mapD, bindD] at hd
        split at hd
        · cases hd
        · rename_i e' h0
          injection hd with h9
          subst h9
          split at h0
          · rename_i a v h1
            split at h0
            · cases h0
            · rename_i e2 h2
              injection h0 with h3
              subst h3
              obtain ⟨hle, rfl⟩ := drop_ok c hi h1
              have e1 := h.ok _ _ _ hi h1
              have e2 := (loop_sim h k (acc ++ [a]) _ hle).2 _ h2
              simp only [loopI, ne_eq, not_true, if_false, e1, e2]
          · rename_i e1 h1
            injection h0 with h3
            subst h3
            have e2 := h.bad _ _ hi h1
            have hne := bad_ne c h1
            obtain ⟨⟨v, ⟨j, e3⟩⟩, hf⟩ : ∃ x, x = one (i, 0) := ⟨_, rfl⟩
            rw [← hf] at e2
            simp only at e2
            subst e2
            simp only [loopI, ne_eq, not_true, if_false, ← hf, loop_stay one k _ j _ hne]
theorem rep_sim {α : Type} {s : ByteArray} {one : RSt → α × RSt} {c : Cod α} (h : Sim s one c) (k : Nat) : Sim s (loopI one k []) (repC c k).1 where
  stay a e he := by rw [loop_stay one k [] a e he]
  ok i l t hi hd := by simpa using (loop_sim h k [] i hi).1 l t hd
  bad i e hi hd := (loop_sim h k [] i hi).2 e hd
theorem list_sim {α : Type} {s : ByteArray} {one : RSt → α × RSt} {c : Cod α} (h : Sim s one c) (m : Int) : Sim s (listI one s m) (listC c m) := by
  have h : Sim s (mapI (bindI (smallI s m) fun n => loopI one n.toNat []) fun x => x.2) (listC c m) := Sim.map (Sim.bind (small_sim s m) fun n => rep_sim h n.toNat)
  exact h
theorem pair_sim (s : ByteArray) : Sim s (pairI s) pairC := Sim.bind (text_sim s) fun _ => text_sim s
theorem tail_sim (s : ByteArray) (k : Int) : Sim s (tailI s k) (tailC k) := by
  unfold tailI tailC
  split
  · exact Sim.map (Sim.bind (list_sim (text_sim s) 8) fun _ => text_sim s)
  split
  · exact Sim.map (Sim.bind (small_sim s 255) fun _ => Sim.bind (small_sim s 255) fun _ => Sim.bind (list_sim (small_sim s 255) 8) fun _ => list_sim (text_sim s) 8)
  split
  · exact Sim.map (Sim.bind (text_sim s) fun _ => Sim.bind (text_sim s) fun _ => Sim.bind (small_sim s 255) fun _ => text_sim s)
  split
  · exact Sim.map (Sim.bind (text_sim s) fun _ => text_sim s)
  · exact ⟨fun _ _ _ => rfl, fun i a t hi hd => by injection hd with h1 h2; subst h1; simp [unitC], fun i e hi hd => by cases hd⟩
theorem ob_sim (s : ByteArray) : Sim s (obI s) obC :=
  Sim.map (Sim.bind (kind_sim s) fun k => Sim.bind (text_sim s) fun _ => Sim.bind (num_sim s) fun _ => Sim.bind (num_sim s) fun _ => Sim.bind (truth_sim s) fun _ =>
    Sim.bind (list_sim (text_sim s) 4) fun _ => Sim.bind (list_sim (pair_sim s) 16) fun _ => tail_sim s k)
end Go.Proofs.Ytolndeolehkjoaa.CodP
