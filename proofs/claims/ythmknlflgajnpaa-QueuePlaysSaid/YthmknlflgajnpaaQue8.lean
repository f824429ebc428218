/- QueueOnce, the plain law: what the lists and the maps keep to. -/
import Derived.Test.YthmknlflgajnpaaQue7
namespace Go.Proofs.Ythmknlflgajnpaa
open Go.RowKit
theorem num_put (l : NM) (a b : Ref) (v : Int) : num (M.put l a v) b = if b = a then v else num l b := by
  unfold num
  rw [M.get_put]
  by_cases h : b = a
  · rw [if_pos h, if_pos h]; rfl
  · rw [if_neg h, if_neg h]
theorem num_del {l : NM} (hn : M.Nodup l) (a b : Ref) : num (M.del l a) b = if b = a then 0 else num l b := by
  unfold num
  rw [M.get_del hn]
  by_cases h : b = a
  · rw [if_pos h, if_pos h]; rfl
  · rw [if_neg h, if_neg h]
structure Good (s : St) (bl dl : List Ref) (k : Nat) : Prop where
  nd : s.line.Nodup
  line : ∀ r, r ∈ s.line ↔ (0 < num (s.mp 0) r ∧ num (s.mp 1) r = 0)
  busy : ∀ r, r ∈ bl ↔ num (s.mp 1) r ≠ 0
  nn : ∀ r, 0 ≤ num (s.mp 1) r
  due : ∀ r, r ∈ dl → 0 < num (s.mp 0) r
  m0 : M.Nodup (s.mp 0)
  m1 : M.Nodup (s.mp 1)
  l1 : s.line.length ≤ k
  l2 : bl.length ≤ k
  l3 : dl.length ≤ k
theorem num_nil (r : Ref) : num [] r = 0 := rfl
theorem Good.start (base top : Int) : Good (St0 base top) [] [] 0 where
  nd := List.nodup_nil
  line r := by constructor
               · intro h; exact absurd h (by simp [St0])
               · rintro ⟨h, _⟩; exact absurd h (by rw [show num ((St0 base top).mp 0) r = 0 from rfl]; omega)
  busy r := by constructor
               · intro h; exact absurd h (by simp)
               · intro h; exact absurd rfl h
  nn r := by rw [show num ((St0 base top).mp 1) r = 0 from rfl]; omega
  due r h := absurd h (by simp)
  m0 := List.Pairwise.nil
  m1 := List.Pairwise.nil
  l1 := Nat.le_refl _
  l2 := Nat.le_refl _
  l3 := Nat.le_refl _
theorem Good.skip {s : St} {bl dl : List Ref} {k : Nat} (h : Good s bl dl k) : Good s bl dl (k + 1) :=
  { h with l1 := Nat.le_succ_of_le h.l1, l2 := Nat.le_succ_of_le h.l2, l3 := Nat.le_succ_of_le h.l3 }
theorem Good.add {s : St} {bl dl : List Ref} {k : Nat} (h : Good s bl dl k) (x : Ref) (dl' : List Ref) (hd : dl' = dl ∨ dl' = dl ++ [x]) : Good (addS s x) bl dl' (k + 1) := by
  have hl : dl'.length ≤ k + 1 := by
    have := h.l3
    rcases hd with rfl | rfl
    · omega
    · simp; omega
  have hm : ∀ r, r ∈ dl' → r ∈ dl ∨ r = x := fun r hr => by
    rcases hd with rfl | rfl
    · exact .inl hr
    · rcases List.mem_append.1 hr with h1 | h1
      · exact .inl h1
      · exact .inr (by simpa using h1)
  unfold addS
  by_cases h0 : 0 < num (s.mp 0) x
  · rw [if_pos h0]
    exact { h.skip with l3 := hl, due := fun r hr => by rcases hm r hr with h1 | rfl; exact h.due r h1; exact h0 }
  · rw [if_neg h0]
    have key : ∀ r, num (M.put (s.mp 0) x 1) r = if r = x then 1 else num (s.mp 0) r := fun r => num_put _ _ _ _
    by_cases h1 : num (s.mp 1) x = 0
    · rw [if_pos h1]
      have hx : x ∉ s.line := fun hx => h0 ((h.line x).1 hx).1
      refine ⟨?_, fun r => ?_, h.busy, h.nn, fun r hr => ?_, M.nodup_put h.m0 x 1, h.m1, ?_, Nat.le_succ_of_le h.l2, hl⟩
      · show (s.line ++ [x]).Nodup
        rw [List.nodup_append]
        exact ⟨h.nd, by simp, fun a ha b hb => by rw [List.mem_singleton] at hb; subst hb; exact fun e => hx (e ▸ ha)⟩
      · show r ∈ s.line ++ [x] ↔ 0 < num (M.put (s.mp 0) x 1) r ∧ num (s.mp 1) r = 0
        rw [key, List.mem_append, List.mem_singleton, h.line]
        by_cases e : r = x
        · subst e; simp [h1]
        · simp [e]
      · show 0 < num (M.put (s.mp 0) x 1) r
        rw [key]
        rcases hm r hr with h2 | rfl
        · split
          · omega
          · exact h.due r h2
        · rw [if_pos rfl]; omega
      · show (s.line ++ [x]).length ≤ k + 1
        have := h.l1
        simp; omega
    · rw [if_neg h1]
      refine ⟨h.nd, fun r => ?_, h.busy, h.nn, fun r hr => ?_, M.nodup_put h.m0 x 1, h.m1, Nat.le_succ_of_le h.l1, Nat.le_succ_of_le h.l2, hl⟩
      · show r ∈ s.line ↔ 0 < num (M.put (s.mp 0) x 1) r ∧ num (s.mp 1) r = 0
        rw [key, h.line]
        by_cases e : r = x
        · subst e; simp [h1]
        · simp [e]
      · show 0 < num (M.put (s.mp 0) x 1) r
        rw [key]
        rcases hm r hr with h2 | rfl
        · split
          · omega
          · exact h.due r h2
        · rw [if_pos rfl]; omega
theorem mem_wo {l : List Ref} {x r : Ref} : r ∈ wo l x ↔ r ∈ l ∧ r ≠ x := by simp [wo]
theorem Good.get {s : St} {bl dl : List Ref} {k : Nat} (h : Good s bl dl k) (x : Ref) (rest : List Ref) (hs : s.line = x :: rest) :
    x ∉ bl ∧ 0 < num ((getS s).mp 1) x ∧ Good (getS s) (bl ++ [x]) (wo dl x) (k + 1) := by
  have hx := (h.line x).1 (by rw [hs]; simp)
  have hnd := h.nd
  rw [hs, List.nodup_cons] at hnd
  have hg : getS s = { s with line := rest, mp := fun j => if j = 1 then M.put (s.mp 1) x 1 else if j = 0 then M.del (s.mp 0) x else s.mp j } := by simp only [getS, hs]
  have k1 : ∀ r, num ((getS s).mp 1) r = if r = x then 1 else num (s.mp 1) r := fun r => by rw [hg]; exact num_put _ _ _ _
  have k0 : ∀ r, num ((getS s).mp 0) r = if r = x then 0 else num (s.mp 0) r := fun r => by rw [hg]; exact num_del h.m0 _ _
  have hl : (getS s).line = rest := by rw [hg]
  refine ⟨fun hb => (h.busy x).1 hb hx.2, by rw [k1, if_pos rfl]; omega, ?_, fun r => ?_, fun r => ?_, fun r => ?_, fun r hr => ?_, ?_, ?_, ?_, ?_, ?_⟩
  · rw [hl]; exact hnd.2
  · rw [hl, k0, k1]
    by_cases e : r = x
    · subst e; simp [hnd.1]
    · have := h.line r
      rw [hs, List.mem_cons] at this
      simp only [e, false_or, if_false] at this ⊢
      exact this
  · rw [k1, List.mem_append, List.mem_singleton, h.busy]
    by_cases e : r = x
    · simp [e]
    · simp [e]
  · rw [k1]; have := h.nn r; split <;> omega
  · obtain ⟨h1, h2⟩ := mem_wo.1 hr
    rw [k0, if_neg h2]; exact h.due r h1
  · rw [hg]; exact M.nodup_del h.m0 x
  · rw [hg]; exact M.nodup_put h.m1 x 1
  · rw [hl]; have := h.l1; rw [hs] at this; simp at this; omega
  · have := h.l2; simp; omega
  · exact Nat.le_trans (List.length_filter_le _ _) (Nat.le_succ_of_le h.l3)
theorem Good.done {s : St} {bl dl : List Ref} {k : Nat} (h : Good s bl dl k) (x : Ref) : Good (doneS s x) (wo bl x) dl (k + 1) := by
  have hlb : (wo bl x).length ≤ k + 1 := Nat.le_trans (List.length_filter_le _ _) (Nat.le_succ_of_le h.l2)
  unfold doneS
  by_cases h1 : num (s.mp 1) x = 0
  · rw [if_pos h1]
    have : wo bl x = bl := by
      unfold wo
      rw [List.filter_eq_self]
      intro r hr
      have : r ≠ x := by rintro rfl; exact (h.busy r).1 hr h1
      simpa using this
    rw [this]; exact h.skip
  · rw [if_neg h1]
    have key : ∀ r, num (M.del (s.mp 1) x) r = if r = x then 0 else num (s.mp 1) r := fun r => num_del h.m1 _ _
    have hx : x ∉ s.line := fun hx => h1 ((h.line x).1 hx).2
    have hb : ∀ r, r ∈ wo bl x ↔ num (M.del (s.mp 1) x) r ≠ 0 := fun r => by
      rw [mem_wo, key, h.busy]
      by_cases e : r = x
      · simp [e]
      · simp [e]
    have hn : ∀ r, 0 ≤ num (M.del (s.mp 1) x) r := fun r => by rw [key]; have := h.nn r; split <;> omega
    by_cases h0 : 0 < num (s.mp 0) x
    · rw [if_pos h0]
      refine ⟨?_, fun r => ?_, hb, hn, h.due, h.m0, M.nodup_del h.m1 x, ?_, hlb, Nat.le_succ_of_le h.l3⟩
      · show (s.line ++ [x]).Nodup
        rw [List.nodup_append]
        exact ⟨h.nd, by simp, fun a ha b hb => by rw [List.mem_singleton] at hb; subst hb; exact fun e => hx (e ▸ ha)⟩
      · show r ∈ s.line ++ [x] ↔ 0 < num (s.mp 0) r ∧ num (M.del (s.mp 1) x) r = 0
        rw [key, List.mem_append, List.mem_singleton, h.line]
        by_cases e : r = x
        · subst e; simp [h0]
        · simp [e]
      · show (s.line ++ [x]).length ≤ k + 1
        have := h.l1
        simp; omega
    · rw [if_neg h0]
      refine ⟨h.nd, fun r => ?_, hb, hn, h.due, h.m0, M.nodup_del h.m1 x, Nat.le_succ_of_le h.l1, hlb, Nat.le_succ_of_le h.l3⟩
      · show r ∈ s.line ↔ 0 < num (s.mp 0) r ∧ num (M.del (s.mp 1) x) r = 0
        rw [key, h.line]
        by_cases e : r = x
        · subst e; simp [h0]
        · simp [e]
theorem Good.apart {s : St} {bl dl : List Ref} {k : Nat} (h : Good s bl dl k) {j : Nat} (hj : j < s.line.length) : s.line[j] ∉ s.line.take j ∧ s.line[j] ∉ bl := by
  refine ⟨fun hm => ?_, fun hb => ?_⟩
  · obtain ⟨i, hi, e⟩ := List.getElem_of_mem hm
    rw [List.length_take] at hi
    rw [List.getElem_take] at e
    have hij : i < j := by omega
    have := (List.pairwise_iff_getElem.1 h.nd) i j (by omega) hj hij
    exact this e
  · exact (h.busy _).1 hb ((h.line _).1 (List.getElem_mem hj)).2
theorem Good.there {s : St} {bl dl : List Ref} {k : Nat} (h : Good s bl dl k) {r : Ref} (hr : r ∈ dl) (hl : r ∉ s.line) : r ∈ bl := by
  rw [h.busy]
  intro e
  exact hl ((h.line r).2 ⟨h.due r hr, e⟩)
end Go.Proofs.Ythmknlflgajnpaa
