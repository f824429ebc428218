/- The mirror's plain law, first part: names in their order, lists of objects that rise, what one more and one less leave. No program. -/
import Derived.Test.YtmbmnldheilffaaMo0
import Derived.Test.YtmbmnldheilffaaMap
import Derived.Lib.Bytealg
namespace Go.Proofs.Ytmbmnldheilffaa
set_option linter.unusedVariables false
set_option linter.unusedSimpArgs false
/-! ### texts in their order -/
theorem cb_self : ∀ a : List UInt8, Lib.compareBytes a a = 0
  | [] => rfl
  | a :: l => by
    unfold Lib.compareBytes
    rw [if_neg (by rw [UInt8.lt_iff_toNat_lt]; omega), if_neg (by rw [UInt8.lt_iff_toNat_lt]; omega)]
    exact cb_self l
theorem cb_flip : ∀ a b : List UInt8, Lib.compareBytes b a = - Lib.compareBytes a b
  | [], [] => rfl
  | [], _ :: _ => rfl
  | _ :: _, [] => rfl
  | a :: l, b :: m => by
    unfold Lib.compareBytes
    have h := cb_flip l m
    simp only [UInt8.lt_iff_toNat_lt]
    by_cases h1 : a.toNat < b.toNat
    · rw [if_pos h1, if_neg (by omega), if_pos h1]; rfl
    · by_cases h2 : b.toNat < a.toNat
      · rw [if_pos h2, if_neg h1, if_pos h2]
      · rw [if_neg h1, if_neg h2, if_neg h2, if_neg h1]; exact h
theorem cb_eq : ∀ a b : List UInt8, Lib.compareBytes a b = 0 → a = b
  | [], [], _ => rfl
  | [], _ :: _, h => by simp [Lib.compareBytes] at h
  | _ :: _, [], h => by simp [Lib.compareBytes] at h
  | a :: l, b :: m, h => by
    unfold Lib.compareBytes at h
    simp only [UInt8.lt_iff_toNat_lt] at h
    by_cases h1 : a.toNat < b.toNat
    · rw [if_pos h1] at h; simp at h
    · by_cases h2 : b.toNat < a.toNat
      · rw [if_neg h1, if_pos h2] at h; simp at h
      · rw [if_neg h1, if_neg h2] at h
        rw [cb_eq l m h, UInt8.toNat_inj.1 (show a.toNat = b.toNat by omega)]
theorem cb_trans : ∀ a b c : List UInt8, Lib.compareBytes a b < 0 → Lib.compareBytes b c < 0 → Lib.compareBytes a c < 0
  | [], [], _, h, _ => by simp [Lib.compareBytes] at h
  | _ :: _, [], _, h, _ => by simp [Lib.compareBytes] at h
  | _, _ :: _, [], _, h => by simp [Lib.compareBytes] at h
  | [], _ :: _, _ :: _, _, _ => by simp [Lib.compareBytes]
  | a :: l, b :: m, c :: k, h, g => by
    unfold Lib.compareBytes at h g ⊢
    simp only [UInt8.lt_iff_toNat_lt] at h g ⊢
    have ih := cb_trans l m k
    by_cases h1 : a.toNat < b.toNat
    · by_cases g1 : b.toNat < c.toNat
      · rw [if_pos (by omega)]; decide
      · by_cases g2 : c.toNat < b.toNat
        · rw [if_neg g1, if_pos g2] at g; simp at g
        · rw [if_pos (by omega)]; decide
    · by_cases h2 : b.toNat < a.toNat
      · rw [if_neg h1, if_pos h2] at h; simp at h
      · rw [if_neg h1, if_neg h2] at h
        by_cases g1 : b.toNat < c.toNat
        · rw [if_pos (by omega)]; decide
        · by_cases g2 : c.toNat < b.toNat
          · rw [if_neg g1, if_pos g2] at g; simp at g
          · rw [if_neg g1, if_neg g2] at g
            rw [if_neg (by omega), if_neg (by omega)]
            exact ih h g
theorem less_cb : ∀ a b : List UInt8, Op.bytesLess a b = decide (Lib.compareBytes a b < 0)
  | [], [] => rfl
  | [], _ :: _ => rfl
  | _ :: _, [] => rfl
  | a :: l, b :: m => by
    unfold Op.bytesLess Lib.compareBytes
    have h := less_cb l m
    by_cases h1 : a < b
    · simp [h1]
    · by_cases h2 : b < a
      · have : ¬ a = b := fun e => h1 (e ▸ h2)
        simp [h1, h2, this]
      · have e : a = b := by
          rw [UInt8.lt_iff_toNat_lt] at h1 h2
          exact UInt8.toNat_inj.1 (by omega)
        subst e
        simp [h1, h]
/-- a text is ahead of another one -/
def slt (a b : ByteArray) : Bool := Op.bytesLess a.toList b.toList
theorem slt_cb (a b : ByteArray) : slt a b = decide (Lib.compareBytes a.data.toList b.data.toList < 0) := by
  unfold slt; rw [less_cb, ByteArray.toList_eq, ByteArray.toList_eq]
theorem slt_irrefl (a : ByteArray) : slt a a = false := by rw [slt_cb, cb_self]; rfl
theorem slt_trans {a b c : ByteArray} (h : slt a b = true) (g : slt b c = true) : slt a c = true := by
  rw [slt_cb, decide_eq_true_iff] at *
  exact cb_trans _ _ _ h g
theorem slt_total (a b : ByteArray) : slt a b = true ∨ a = b ∨ slt b a = true := by
  rw [slt_cb, slt_cb, decide_eq_true_iff, decide_eq_true_iff, cb_flip a.data.toList b.data.toList]
  by_cases h1 : Lib.compareBytes a.data.toList b.data.toList < 0
  · exact .inl h1
  by_cases h2 : Lib.compareBytes a.data.toList b.data.toList = 0
  · have h := Array.toList_inj.1 (cb_eq _ _ h2)
    cases a; cases b
    simp only at h
    subst h
    exact .inr (.inl rfl)
  · exact .inr (.inr (by omega))
/-- a name is ahead of another one: by kind, then by name -/
def rlt (a b : Ref) : Bool := decide (a.kind < b.kind) || (decide (a.kind = b.kind) && slt a.name b.name)
theorem rlt_iff (a b : Ref) : rlt a b = true ↔ a.kind < b.kind ∨ (a.kind = b.kind ∧ slt a.name b.name = true) := by simp [rlt]
theorem rlt_irrefl (a : Ref) : rlt a a = false := by simp [rlt, slt_irrefl]
theorem rlt_trans {a b c : Ref} (h : rlt a b = true) (g : rlt b c = true) : rlt a c = true := by
  rw [rlt_iff] at *
  rcases h with h | ⟨h1, h2⟩ <;> rcases g with g | ⟨g1, g2⟩
  · exact .inl (by omega)
  · exact .inl (by omega)
  · exact .inl (by omega)
  · exact .inr ⟨by omega, slt_trans h2 g2⟩
theorem rlt_total (a b : Ref) : rlt a b = true ∨ a = b ∨ rlt b a = true := by
  rw [rlt_iff, rlt_iff]
  by_cases h1 : a.kind < b.kind
  · exact .inl (.inl h1)
  by_cases h2 : b.kind < a.kind
  · exact .inr (.inr (.inl h2))
  have e : a.kind = b.kind := by omega
  rcases slt_total a.name b.name with h | h | h
  · exact .inl (.inr ⟨e, h⟩)
  · cases a; cases b; simp only at e h; subst e; subst h; exact .inr (.inl rfl)
  · exact .inr (.inr (.inr ⟨e.symm, h⟩))
theorem rlt_asymm {a b : Ref} (h : rlt a b = true) : rlt b a = false := by
  cases g : rlt b a
  · rfl
  · have := rlt_trans h g; rw [rlt_irrefl] at this; cases this
/-- two lists that rise and have the same members are the same -/
theorem rising_ext {α : Type} {r : α → α → Prop} (irr : ∀ a, ¬ r a a) (asy : ∀ {a b}, r a b → ¬ r b a) : ∀ {l m : List α}, l.Pairwise r → m.Pairwise r → (∀ a, a ∈ l ↔ a ∈ m) → l = m
  | [], [], _, _, _ => rfl
  | [], b :: m, _, _, h => absurd ((h b).2 List.mem_cons_self) (by simp)
  | a :: l, [], _, _, h => absurd ((h a).1 List.mem_cons_self) (by simp)
  | a :: l, b :: m, hl, hm, h => by
    obtain ⟨l1, l2⟩ := List.pairwise_cons.1 hl
    obtain ⟨m1, m2⟩ := List.pairwise_cons.1 hm
    have e : a = b := by
      rcases List.mem_cons.1 ((h a).1 List.mem_cons_self) with e | e
      · exact e
      · rcases List.mem_cons.1 ((h b).2 List.mem_cons_self) with e' | e'
        · exact e'.symm
        · exact absurd (l1 b e') (asy (m1 a e))
    subst e
    rw [rising_ext irr asy l2 m2 fun x => ⟨fun hx => ?_, fun hx => ?_⟩]
    · rcases List.mem_cons.1 ((h x).1 (List.mem_cons_of_mem _ hx)) with e | e
      · exact absurd (l1 x hx) (e ▸ irr x)
      · exact e
    · rcases List.mem_cons.1 ((h x).2 (List.mem_cons_of_mem _ hx)) with e | e
      · exact absurd (m1 x hx) (e ▸ irr x)
      · exact e

/-! ### lists of objects that rise -/
def refOf (o : Ob) : Ref := ⟨o.kind, o.name⟩
/-- an object is ahead of another one -/
def olt (a b : Ob) : Bool := rlt (refOf a) (refOf b)
def Srt (L : List Ob) : Prop := L.Pairwise fun a b => olt a b = true
theorem Srt.filter {L : List Ob} (h : Srt L) (p : Ob → Bool) : Srt (L.filter p) := List.Pairwise.filter p h
theorem Srt.inj {L : List Ob} (h : Srt L) {a b : Ob} (ha : a ∈ L) (hb : b ∈ L) (e : refOf a = refOf b) : a = b := by
  induction L with
  | nil => simp at ha
  | cons x L ih =>
    obtain ⟨h1, h2⟩ := List.pairwise_cons.1 h
    rcases List.mem_cons.1 ha with ea | ha <;> rcases List.mem_cons.1 hb with eb | hb
    · rw [ea, eb]
    · have := h1 b hb; unfold olt at this; rw [← ea, e, rlt_irrefl] at this; cases this
    · have := h1 a ha; unfold olt at this; rw [← eb, ← e, rlt_irrefl] at this; cases this
    · exact ih h2 ha hb
/-- the object of a name -/
def find (L : List Ob) (r : Ref) : Option Ob := L.find? fun o => decide (refOf o = r)
theorem find_some {L : List Ob} {r : Ref} {o : Ob} (h : find L r = some o) : o ∈ L ∧ refOf o = r := by
  have h1 := List.mem_of_find?_eq_some h
  have h2 := List.find?_some h
  exact ⟨h1, by simpa using h2⟩
theorem find_none {L : List Ob} {r : Ref} : find L r = none ↔ ∀ o ∈ L, refOf o ≠ r := by
  unfold find
  rw [List.find?_eq_none]
  simp
theorem Srt.find {L : List Ob} (h : Srt L) {o : Ob} (ho : o ∈ L) : find L (refOf o) = some o := by
  cases e : Go.Proofs.Ytmbmnldheilffaa.find L (refOf o) with
  | none => exact absurd rfl (find_none.1 e o ho)
  | some x =>
    obtain ⟨h1, h2⟩ := find_some e
    rw [h.inj h1 ho h2]
theorem Srt.mem {L : List Ob} (h : Srt L) {o : Ob} : o ∈ L ↔ Go.Proofs.Ytmbmnldheilffaa.find L (refOf o) = some o := ⟨fun ho => h.find ho, fun e => (find_some e).1⟩
theorem srt_ext {L M : List Ob} (hL : Srt L) (hM : Srt M) (h : ∀ r, find L r = find M r) : L = M := by
  refine rising_ext (r := fun a b => olt a b = true) (fun a ha => by unfold olt at ha; rw [rlt_irrefl] at ha; cases ha) (fun {a b} ha hb => by unfold olt at ha hb; rw [rlt_asymm ha] at hb; cases hb) hL hM fun a => ?_
  rw [hL.mem, hM.mem, h]
/-- one less -/
def delL (r : Ref) (L : List Ob) : List Ob := L.filter fun o => !decide (refOf o = r)
/-- one more, where there is none of its name -/
def insL (o : Ob) (L : List Ob) : List Ob := L.filter (fun x => olt x o) ++ o :: L.filter fun x => olt o x
def putL (o : Ob) (L : List Ob) : List Ob := insL o (delL (refOf o) L)
theorem Srt.del {L : List Ob} (h : Srt L) (r : Ref) : Srt (delL r L) := h.filter _
theorem mem_delL {L : List Ob} {r : Ref} {o : Ob} : o ∈ delL r L ↔ o ∈ L ∧ refOf o ≠ r := by simp [delL]
theorem mem_insL {L : List Ob} {o x : Ob} : x ∈ insL o L ↔ x = o ∨ (x ∈ L ∧ refOf x ≠ refOf o) := by
  unfold insL
  rw [List.mem_append, List.mem_cons, List.mem_filter, List.mem_filter]
  constructor
  · rintro (⟨h1, h2⟩ | rfl | ⟨h1, h2⟩)
    · exact .inr ⟨h1, fun e => by unfold olt at h2; rw [e, rlt_irrefl] at h2; cases h2⟩
    · exact .inl rfl
    · exact .inr ⟨h1, fun e => by unfold olt at h2; rw [e, rlt_irrefl] at h2; cases h2⟩
  · rintro (rfl | ⟨h1, h2⟩)
    · exact .inr (.inl rfl)
    · rcases rlt_total (refOf x) (refOf o) with h | h | h
      · exact .inl ⟨h1, h⟩
      · exact absurd h h2
      · exact .inr (.inr ⟨h1, h⟩)
theorem Srt.ins {L : List Ob} (h : Srt L) (o : Ob) : Srt (insL o L) := by
  unfold Srt insL
  refine List.pairwise_append.2 ⟨h.filter _, List.pairwise_cons.2 ⟨fun x hx => (List.mem_filter.1 hx).2, h.filter _⟩, fun a ha b hb => ?_⟩
  have h1 := (List.mem_filter.1 ha).2
  rcases List.mem_cons.1 hb with rfl | hb
  · exact h1
  · exact rlt_trans h1 (List.mem_filter.1 hb).2
theorem Srt.put {L : List Ob} (h : Srt L) (o : Ob) : Srt (putL o L) := (h.del _).ins o
theorem find_delL {L : List Ob} (h : Srt L) (r q : Ref) : find (delL r L) q = if q = r then none else find L q := by
  by_cases e : q = r
  · rw [if_pos e, find_none]
    intro o ho hq
    exact (mem_delL.1 ho).2 (hq.trans e)
  · rw [if_neg e]
    cases hf : find L q with
    | none => rw [find_none] at *; intro o ho; exact hf o (mem_delL.1 ho).1
    | some o =>
      obtain ⟨h1, h2⟩ := find_some hf
      rw [← h2]
      exact (h.del r).find (mem_delL.2 ⟨h1, by rw [h2]; exact e⟩)
theorem find_putL {L : List Ob} (h : Srt L) (o : Ob) (q : Ref) : find (putL o L) q = if q = refOf o then some o else find L q := by
  by_cases e : q = refOf o
  · rw [if_pos e, e]
    exact (h.put o).find (mem_insL.2 (.inl rfl))
  · rw [if_neg e]
    cases hf : find L q with
    | none =>
      rw [find_none] at *
      intro x hx hq
      rcases mem_insL.1 hx with rfl | ⟨h1, _⟩
      · exact e hq.symm
      · exact hf x (mem_delL.1 h1).1 hq
    | some x =>
      obtain ⟨h1, h2⟩ := find_some hf
      rw [← h2]
      exact (h.put o).find (mem_insL.2 (.inr ⟨mem_delL.2 ⟨h1, by rw [h2]; exact e⟩, by rw [h2]; exact e⟩))
/-- of a list that rises and has no object of the name, what is ahead and what is behind is all of it -/
theorem split_srt {L : List Ob} (h : Srt L) (o : Ob) (hn : find L (refOf o) = none) : L.filter (fun x => olt x o) ++ L.filter (fun x => olt o x) = L := by
  refine rising_ext (r := fun a b => olt a b = true) (fun a ha => by unfold olt at ha; rw [rlt_irrefl] at ha; cases ha) (fun {a b} ha hb => by unfold olt at ha hb; rw [rlt_asymm ha] at hb; cases hb) ?_ h fun x => ?_
  · exact List.pairwise_append.2 ⟨h.filter _, h.filter _, fun a ha b hb => rlt_trans (List.mem_filter.1 ha).2 (List.mem_filter.1 hb).2⟩
  · rw [List.mem_append, List.mem_filter, List.mem_filter]
    refine ⟨fun hx => hx.elim (·.1) (·.1), fun hx => ?_⟩
    rcases rlt_total (refOf x) (refOf o) with g | g | g
    · exact .inl ⟨hx, g⟩
    · exact absurd g (find_none.1 hn x hx)
    · exact .inr ⟨hx, g⟩
theorem delL_none {L : List Ob} {r : Ref} (h : find L r = none) : delL r L = L := by
  unfold delL
  rw [List.filter_eq_self]
  intro o ho
  simpa using find_none.1 h o ho

/-! ### who has a text -/
/-- an object's texts -/
def txts (o : Ob) : List ByteArray := if o.kind = 1 then o.cidrs else if o.kind = 2 then o.ips else []
def hasT (k : Int) (t : ByteArray) (o : Ob) : Bool := decide (o.kind = k) && (txts o).any fun s => decide (s = t)
def names (L : List Ob) (k : Int) (t : ByteArray) : List ByteArray := (L.filter (hasT k t)).map (·.name)
theorem hasT_iff {k : Int} {t : ByteArray} {o : Ob} : hasT k t o = true ↔ o.kind = k ∧ t ∈ txts o := by simp [hasT]
/-- names of a kind rise -/
theorem names_rise {L : List Ob} (h : Srt L) (k : Int) (t : ByteArray) : (names L k t).Pairwise fun a b => slt a b = true := by
  unfold names
  rw [List.pairwise_map]
  have h1 : (L.filter (hasT k t)).Pairwise fun a b => olt a b = true := h.filter _
  refine List.Pairwise.imp_of_mem (fun {a b} ha hb hab => ?_) h1
  have ka := (hasT_iff.1 (List.mem_filter.1 ha).2).1
  have kb := (hasT_iff.1 (List.mem_filter.1 hb).2).1
  unfold olt at hab
  rcases (rlt_iff _ _).1 hab with h | h
  · exact absurd h (by simp [refOf, ka, kb])
  · exact h.2
/-- a name stands in its place -/
def insN (x : ByteArray) (l : List ByteArray) : List ByteArray := l.filter (fun y => slt y x) ++ x :: l.filter fun y => slt x y
theorem mem_names {L : List Ob} {k : Int} {t n : ByteArray} : n ∈ names L k t ↔ ∃ o ∈ L, o.kind = k ∧ t ∈ txts o ∧ o.name = n := by
  unfold names
  simp only [List.mem_map, List.mem_filter, hasT_iff]
  exact ⟨fun ⟨o, ⟨h1, h2, h3⟩, h4⟩ => ⟨o, h1, h2, h3, h4⟩, fun ⟨o, h1, h2, h3, h4⟩ => ⟨o, ⟨h1, h2, h3⟩, h4⟩⟩
theorem name_ext {l m : List ByteArray} (hl : l.Pairwise fun a b => slt a b = true) (hm : m.Pairwise fun a b => slt a b = true) (h : ∀ a, a ∈ l ↔ a ∈ m) : l = m :=
  rising_ext (r := fun a b => slt a b = true) (fun a ha => by rw [slt_irrefl] at ha; cases ha) (fun {a b} ha hb => by have := slt_trans ha hb; rw [slt_irrefl] at this; cases this) hl hm h
theorem insN_rise {l : List ByteArray} (h : l.Pairwise fun a b => slt a b = true) (x : ByteArray) : (insN x l).Pairwise fun a b => slt a b = true := by
  unfold insN
  refine List.pairwise_append.2 ⟨List.Pairwise.filter _ h, List.pairwise_cons.2 ⟨fun y hy => (List.mem_filter.1 hy).2, List.Pairwise.filter _ h⟩, fun a ha b hb => ?_⟩
  have h1 := (List.mem_filter.1 ha).2
  rcases List.mem_cons.1 hb with rfl | hb
  · exact h1
  · exact slt_trans h1 (List.mem_filter.1 hb).2
theorem mem_insN {l : List ByteArray} {x y : ByteArray} : y ∈ insN x l ↔ y = x ∨ y ∈ l := by
  unfold insN
  rw [List.mem_append, List.mem_cons, List.mem_filter, List.mem_filter]
  constructor
  · rintro (⟨h, _⟩ | h | ⟨h, _⟩)
    · exact .inr h
    · exact .inl h
    · exact .inr h
  · rintro (h | h)
    · exact .inr (.inl h)
    · rcases slt_total y x with g | g | g
      · exact .inl ⟨h, g⟩
      · exact .inr (.inl g)
      · exact .inr (.inr ⟨h, g⟩)
theorem names_ins {L : List Ob} (h : Srt L) (o : Ob) (hn : find L (refOf o) = none) (k : Int) (t : ByteArray) :
    names (insL o L) k t = if hasT k t o then insN o.name (names L k t) else names L k t := by
  have hr := names_rise (h.ins o) k t
  have hm : ∀ n, n ∈ names (insL o L) k t ↔ n ∈ names L k t ∨ (o.kind = k ∧ t ∈ txts o ∧ o.name = n) := fun n => by
    rw [mem_names, mem_names]
    constructor
    · rintro ⟨x, hx, h1, h2, h3⟩
      rcases mem_insL.1 hx with rfl | ⟨hx, _⟩
      · exact .inr ⟨h1, h2, h3⟩
      · exact .inl ⟨x, hx, h1, h2, h3⟩
    · rintro (⟨x, hx, h1, h2, h3⟩ | ⟨h1, h2, h3⟩)
      · exact ⟨x, mem_insL.2 (.inr ⟨hx, find_none.1 hn x hx⟩), h1, h2, h3⟩
      · exact ⟨o, mem_insL.2 (.inl rfl), h1, h2, h3⟩
  by_cases hc : o.kind = k ∧ t ∈ txts o
  · rw [if_pos (hasT_iff.2 hc)]
    refine name_ext hr (insN_rise (names_rise h k t) _) fun n => ?_
    rw [hm, mem_insN]
    exact ⟨fun hh => hh.elim .inr (fun x => .inl x.2.2.symm), fun hh => hh.elim (fun x => .inr ⟨hc.1, hc.2, x.symm⟩) .inl⟩
  · rw [if_neg (fun x => hc (hasT_iff.1 x))]
    refine name_ext hr (names_rise h k t) fun n => ?_
    rw [hm]
    exact ⟨fun hh => hh.elim id (fun x => absurd ⟨x.1, x.2.1⟩ hc), .inl⟩
theorem names_del {L : List Ob} (h : Srt L) (r : Ref) (k : Int) (t : ByteArray) :
    names (delL r L) k t = if r.kind = k then (names L k t).filter (fun n => !decide (n = r.name)) else names L k t := by
  have hr := names_rise (h.del r) k t
  have hm : ∀ n, n ∈ names (delL r L) k t ↔ n ∈ names L k t ∧ ⟨k, n⟩ ≠ r := fun n => by
    rw [mem_names, mem_names]
    constructor
    · rintro ⟨x, hx, h1, h2, h3⟩
      obtain ⟨hx, hne⟩ := mem_delL.1 hx
      exact ⟨⟨x, hx, h1, h2, h3⟩, by rw [← h1, ← h3]; exact hne⟩
    · rintro ⟨⟨x, hx, h1, h2, h3⟩, hne⟩
      exact ⟨x, mem_delL.2 ⟨hx, by rw [← h1, ← h3] at hne; exact hne⟩, h1, h2, h3⟩
  by_cases hc : r.kind = k
  · rw [if_pos hc]
    refine name_ext hr (List.Pairwise.filter _ (names_rise h k t)) fun n => ?_
    rw [hm, List.mem_filter]
    have : (⟨k, n⟩ : Ref) ≠ r ↔ (!decide (n = r.name)) = true := by
      cases r; simp only at hc; subst hc; simp
    rw [this]
  · rw [if_neg hc]
    refine name_ext hr (names_rise h k t) fun n => ?_
    rw [hm]
    exact ⟨fun hh => hh.1, fun hh => ⟨hh, fun e => hc (by rw [← e])⟩⟩
/-- a text that the object of a name hasn't: none of the name stands there -/
theorem names_not {L : List Ob} (h : Srt L) {o : Ob} (ho : o ∈ L) {t : ByteArray} (ht : t ∉ txts o) : (names L o.kind t).filter (fun n => !decide (n = o.name)) = names L o.kind t := by
  rw [List.filter_eq_self]
  intro n hn
  obtain ⟨x, hx, h1, h2, h3⟩ := mem_names.1 hn
  have : n ≠ o.name := fun e => by
    have := h.inj hx ho (by unfold refOf; rw [h1, h3, e])
    subst this
    exact ht h2
  simpa using this
end Go.Proofs.Ytmbmnldheilffaa
