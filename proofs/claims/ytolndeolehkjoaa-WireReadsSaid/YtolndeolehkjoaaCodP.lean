/- Plain laws of bytes that are written and read: parts one behind the other. No program. -/
import Derived.RowKit
namespace Go.Proofs.Ytolndeolehkjoaa.CodP
set_option linter.unusedVariables false
set_option linter.unusedSimpArgs false
def BL (s : ByteArray) : List UInt8 := s.data.toList
theorem BL_inj {s t : ByteArray} (h : BL s = BL t) : s = t := by
  cases s; cases t
  simp only [ByteArray.mk.injEq]
  exact Array.toList_inj.1 h
theorem BL_append (s t : ByteArray) : BL (s ++ t) = BL s ++ BL t := by simp [BL]
theorem BL_length (s : ByteArray) : (BL s).length = s.size := by simp [BL]
theorem BL_extract (s : ByteArray) (a b : Nat) : BL (s.extract a b) = ((BL s).take b).drop a := by
  simp [BL, List.extract_eq_take_drop, List.drop_take]
def ofBL (l : List UInt8) : ByteArray := ⟨l.toArray⟩
theorem BL_ofBL (l : List UInt8) : BL (ofBL l) = l := by simp [BL, ofBL]
theorem ofBL_BL (s : ByteArray) : ofBL (BL s) = s := BL_inj (BL_ofBL _)
/-- what reading tells: a thing and what stands behind it, or what is amiss (3: too few bytes, 4: they say nothing) -/
inductive Out (α : Type) where
  | ok (a : α) (t : List UInt8)
  | bad (e : Int)
/-- things that have bytes, and are read from them -/
structure Cod (α : Type) where
  good : α → Prop
  enc : α → List UInt8
  dec : List UInt8 → Out α
  R : ∀ a t, good a → dec (enc a ++ t) = .ok a t
  S : ∀ a p q, good a → enc a = p ++ q → q ≠ [] → dec p = .bad 3
  C : ∀ l a t, dec l = .ok a t → good a ∧ l = enc a ++ t
  E : ∀ l e, dec l = .bad e → e = 3 ∨ e = 4
/-- one, and one that hangs on it behind it -/
def bindD {α β : Type} (c : List UInt8 → Out α) (d : α → List UInt8 → Out β) (l : List UInt8) : Out (α × β) :=
  match c l with
  | .ok a t => match d a t with
    | .ok b u => .ok (a, b) u
    | .bad e => .bad e
  | .bad e => .bad e
def bindC {α β : Type} (c : Cod α) (d : α → Cod β) : Cod (α × β) where
  good x := c.good x.1 ∧ (d x.1).good x.2
  enc x := c.enc x.1 ++ (d x.1).enc x.2
  dec := bindD c.dec fun a => (d a).dec
  R := by
    rintro ⟨a, b⟩ t ⟨h1, h2⟩
    simp only [bindD, List.append_assoc, c.R a _ h1, (d a).R b _ h2]
  S := by
    rintro ⟨a, b⟩ p q ⟨h1, h2⟩ he hq
    rcases List.append_eq_append_iff.1 he with ⟨u, hu1, hu2⟩ | ⟨u, hu1, hu2⟩
    · -- p = enc a ++ u
      subst hu1
      simp only [bindD, c.R a _ h1, (d a).S b u q h2 hu2 hq]
    · -- enc a = p ++ u
      by_cases hu : u = []
      · subst hu
        simp only [List.append_nil] at hu1
        simp only [List.nil_append] at hu2
        have hp : p = c.enc a ++ [] := by simp [hu1]
        rw [hp]
        simp only [bindD, c.R a _ h1]
        rw [(d a).S b [] q h2 (by simp [hu2]) hq]
      · simp only [bindD, c.S a p u h1 hu1 hu]
  C := by
    intro l x t h
    simp only [bindD] at h
    split at h
    · rename_i a u h1
      split at h
      · rename_i b v h2
        injection h with h3 h4
        subst h3; subst h4
        obtain ⟨g1, e1⟩ := c.C _ _ _ h1
        obtain ⟨g2, e2⟩ := (d a).C _ _ _ h2
        exact ⟨⟨g1, g2⟩, by rw [e1, e2, List.append_assoc]⟩
      · cases h
    · cases h
  E := by
    intro l e h
    simp only [bindD] at h
    split at h
    · split at h
      · cases h
      · injection h with h; subst h; rename_i h2; exact (d _).E _ _ h2
    · injection h with h; subst h; rename_i h1; exact c.E _ _ h1
/-- the same under another form -/
def mapD {α β : Type} (c : List UInt8 → Out α) (f : α → β) (l : List UInt8) : Out β :=
  match c l with
  | .ok a t => .ok (f a) t
  | .bad e => .bad e
def mapC {α β : Type} (c : Cod α) (f : α → β) (g : β → α) (hg : ∀ a, c.good a → g (f a) = a) : Cod β where
  good b := c.good (g b) ∧ f (g b) = b
  enc b := c.enc (g b)
  dec := mapD c.dec f
  R := by
    rintro b t ⟨h1, h2⟩
    simp only [mapD, c.R _ t h1, h2]
  S := by
    rintro b p q ⟨h1, h2⟩ he hq
    simp only [mapD, c.S _ p q h1 he hq]
  C := by
    intro l b t h
    simp only [mapD] at h
    split at h
    · rename_i a u h1
      injection h with h3 h4
      subst h3; subst h4
      obtain ⟨g1, e1⟩ := c.C _ _ _ h1
      exact ⟨⟨by rw [hg a g1]; exact g1, by rw [hg a g1]⟩, by rw [hg a g1]; exact e1⟩
    · cases h
  E := by
    intro l e h
    simp only [mapD] at h
    split at h
    · cases h
    · injection h with h; subst h; rename_i h1; exact c.E _ _ h1
/-- those alone that have a mark -/
def keepD {α : Type} (c : List UInt8 → Out α) (p : α → Bool) (l : List UInt8) : Out α :=
  match c l with
  | .ok a t => if p a then .ok a t else .bad 4
  | .bad e => .bad e
def keepC {α : Type} (c : Cod α) (p : α → Bool) : Cod α where
  good a := c.good a ∧ p a = true
  enc := c.enc
  dec := keepD c.dec p
  R := by
    rintro a t ⟨h1, h2⟩
    simp only [keepD, c.R _ t h1, h2, if_true]
  S := by
    rintro a x q ⟨h1, h2⟩ he hq
    simp only [keepD, c.S _ x q h1 he hq]
  C := by
    intro l a t h
    simp only [keepD] at h
    split at h
    · rename_i b u h1
      split at h
      · rename_i h2
        injection h with h3 h4
        subst h3; subst h4
        obtain ⟨g1, e1⟩ := c.C _ _ _ h1
        exact ⟨⟨g1, h2⟩, e1⟩
      · cases h
    · cases h
  E := by
    intro l e h
    simp only [keepD] at h
    split at h
    · split at h
      · cases h
      · injection h with h; exact .inr h.symm
    · injection h with h; subst h; rename_i h1; exact c.E _ _ h1
/-- nothing -/
def unitC {α : Type} (x : α) : Cod α where
  good a := a = x
  enc _ := []
  dec l := .ok x l
  R := by rintro a t rfl; rfl
  S := by
    intro a p q _ he hq
    have := congrArg List.length he
    simp only [List.length_nil, List.length_append] at this
    exact absurd (List.length_eq_zero_iff.1 (by omega)) hq
  C := by
    intro l a t h
    injection h with h1 h2
    subst h1; subst h2; exact ⟨rfl, rfl⟩
  E := by intro l e h; cases h
/-- so many bytes -/
def takeC (n : Nat) : Cod ByteArray where
  good s := s.size = n
  enc := BL
  dec l := if l.length < n then .bad 3 else .ok (ofBL (l.take n)) (l.drop n)
  R := by
    intro s t h
    have hl : (BL s).length = n := by rw [BL_length, h]
    rw [if_neg (by simp; omega)]
    congr 1
    · rw [← hl, List.take_left, ofBL_BL]
    · rw [← hl, List.drop_left]
  S := by
    intro s p q h he hq
    have h1 := congrArg List.length he
    rw [BL_length, List.length_append] at h1
    have h2 : 0 < q.length := List.length_pos_iff.2 hq
    rw [if_pos (by omega)]
  C := by
    intro l a t h
    split at h
    · cases h
    · rename_i hl
      injection h with h1 h2
      subst h1; subst h2
      refine ⟨?_, ?_⟩
      · rw [← BL_length, BL_ofBL, List.length_take]; omega
      · rw [BL_ofBL, List.take_append_drop]
  E := by
    intro l e h
    split at h
    · injection h with h; exact .inl h.symm
    · cases h
/-- a byte as a number -/
def byteC : Cod Int where
  good n := 0 ≤ n ∧ n ≤ 255
  enc n := [UInt8.ofNat n.toNat]
  dec l := match l with
    | [] => .bad 3
    | b :: t => .ok b.toNat t
  R := by
    rintro n t ⟨h1, h2⟩
    simp only [List.cons_append, List.nil_append, UInt8.toNat_ofNat', Out.ok.injEq, and_true]
    omega
  S := by
    intro n p q h he hq
    have h1 := congrArg List.length he
    have h2 : 0 < q.length := List.length_pos_iff.2 hq
    simp only [List.length_cons, List.length_nil, List.length_append] at h1
    obtain rfl : p = [] := List.length_eq_zero_iff.1 (by omega)
    rfl
  C := by
    intro l a t h
    cases l with
    | nil => cases h
    | cons b u =>
      injection h with h1 h2
      subst h1; subst h2
      refine ⟨⟨by omega, ?_⟩, ?_⟩
      · have := b.toNat_lt; omega
      · simp
  E := by
    intro l e h
    cases l with
    | nil => injection h with h; exact .inl h.symm
    | cons b u => cases h
/-- a byte of at most so much -/
def smallC (most : Int) : Cod Int := keepC byteC fun n => decide (n ≤ most)
/-- a text: its length and its bytes -/
def textC : Cod ByteArray :=
  mapC (bindC (smallC 200) fun n => takeC n.toNat) (fun x => x.2) (fun s => (s.size, s)) (by
    rintro ⟨n, s⟩ ⟨⟨⟨h1, h2⟩, h3⟩, h4⟩
    simp only [takeC] at h4
    simp only [Prod.mk.injEq, and_true]
    omega)
/-- so many -/
def repD {α : Type} (c : List UInt8 → Out α) : Nat → List UInt8 → Out (List α)
  | 0, l => .ok [] l
  | k + 1, l => mapD (bindD c fun _ => repD c k) (fun x => x.1 :: x.2) l
def consC {α : Type} (c : Cod α) (k : Nat) (d : Cod (List α)) (hd : ∀ l, d.good l → l.length = k) : Cod (List α) where
  good l := ∃ a m, l = a :: m ∧ c.good a ∧ d.good m
  enc l := match l with
    | [] => []
    | a :: m => c.enc a ++ d.enc m
  dec := mapD (bindC c fun _ => d).dec fun x => x.1 :: x.2
  R := by
    rintro l t ⟨a, m, rfl, h1, h2⟩
    have := (bindC c fun _ => d).R (a, m) t ⟨h1, h2⟩
    simp only [bindC] at this
    simp only [mapD, bindC, this]
  S := by
    rintro l p q ⟨a, m, rfl, h1, h2⟩ he hq
    have := (bindC c fun _ => d).S (a, m) p q ⟨h1, h2⟩ he hq
    simp only [mapD, this]
  C := by
    intro l x t h
    simp only [mapD] at h
    split at h
    · rename_i y u h1
      obtain ⟨⟨g1, g2⟩, e1⟩ := (bindC c fun _ => d).C _ _ _ h1
      injection h with h3 h4
      subst h3; subst h4
      exact ⟨⟨_, _, rfl, g1, g2⟩, e1⟩
    · cases h
  E := by
    intro l e h
    simp only [mapD] at h
    split at h
    · cases h
    · injection h with h; subst h; rename_i h1; exact (bindC c fun _ => d).E _ _ h1
def repC {α : Type} (c : Cod α) : (k : Nat) → { d : Cod (List α) // ∀ l, d.good l ↔ l.length = k ∧ ∀ x ∈ l, c.good x }
  | 0 => ⟨unitC [], fun l => by
      cases l <;> simp [unitC]⟩
  | k + 1 => ⟨consC c k (repC c k).1 (fun l h => (((repC c k).2 l).1 h).1), fun l => by
      simp only [consC]
      constructor
      · rintro ⟨a, m, rfl, h1, h2⟩
        obtain ⟨h3, h4⟩ := ((repC c k).2 m).1 h2
        refine ⟨by simp [h3], ?_⟩
        intro x hx
        rcases List.mem_cons.1 hx with rfl | hx
        · exact h1
        · exact h4 x hx
      · rintro ⟨h1, h2⟩
        cases l with
        | nil => simp at h1
        | cons a m => exact ⟨a, m, rfl, h2 a (by simp), ((repC c k).2 m).2 ⟨by simpa using h1, fun x hx => h2 x (by simp [hx])⟩⟩⟩
theorem repC_enc {α : Type} (c : Cod α) : ∀ (k : Nat) (l : List α), l.length = k → (repC c k).1.enc l = l.flatMap c.enc
  | 0, l, h => by
      obtain rfl : l = [] := List.length_eq_zero_iff.1 h
      rfl
  | k + 1, l, h => by
      cases l with
      | nil => simp at h
      | cons a m =>
        show c.enc a ++ (repC c k).1.enc m = _
        rw [repC_enc c k m (by simpa using h)]; rfl
/-- a list: how many, and these -/
def listC {α : Type} (c : Cod α) (most : Int) : Cod (List α) :=
  mapC (bindC (smallC most) fun n => (repC c n.toNat).1) (fun x => x.2) (fun l => (l.length, l)) (by
    rintro ⟨n, l⟩ ⟨⟨⟨h1, h2⟩, h3⟩, h4⟩
    have := (((repC c n.toNat).2 l).1 h4).1
    simp only [Prod.mk.injEq, and_true]
    simp only at h1
    omega)
end Go.Proofs.Ytolndeolehkjoaa.CodP
