/- QueuePlays, the plain law: the queue and the reference's queue stay alike. No walk. -/
import Derived.Test.YthmknlflgajnpaaRef12
import Derived.Test.YthmknlflgajnpaaHp10
import Derived.Test.YthmknlflgajnpaaGrP
import Derived.Test.YthmknlflgajnpaaQue8
import Derived.Test.YthmknlflgajnpaaNil2
namespace Go.Proofs.Ythmknlflgajnpaa
set_option linter.unusedVariables false
set_option linter.unusedSimpArgs false
open Go.RowKit
structure Sim (s : St) (r : RS) (k j : Nat) : Prop where
  base : r.base = s.base
  most : r.most = s.most
  now : r.now = s.now
  line : r.line = s.line
  nd : s.line.Nodup
  lin : ∀ x, x ∈ s.line ↔ (0 < num (s.mp 0) x ∧ num (s.mp 1) x = 0)
  marked : ∀ x, x ∈ r.marked ↔ 0 < num (s.mp 0) x
  busy : ∀ x, x ∈ r.busy ↔ 0 < num (s.mp 1) x
  bn : ∀ x, 0 ≤ num (s.mp 1) x
  fail : ∀ x, num (s.mp 3) x = rfail r.fails x
  fb : ∀ x, 0 ≤ num (s.mp 3) x ∧ num (s.mp 3) x ≤ j
  fl : r.fails.length ≤ j
  wait : ∀ x : Item, x ∈ r.waits ↔ M.get (s.mp 2) x.ref = some x.due
  wnd : (r.waits.map (·.ref)).Nodup
  wlen : r.waits.length = (s.mp 2).length
  wname : ∀ x ∈ r.waits, x.ref.name.size ≤ 200
  pile : ∀ x u, M.get (s.mp 2) x = some u → (⟨u, x⟩ : Item) ∈ s.pile
  heap : Hp s.pile s.pile.length
  m0 : M.Nodup (s.mp 0)
  m1 : M.Nodup (s.mp 1)
  m2 : M.Nodup (s.mp 2)
  m3 : M.Nodup (s.mp 3)
  c1 : r.line.length + r.waits.length + r.busy.length ≤ k
  c2 : r.marked.length + r.waits.length ≤ k
  c3 : s.pile.length ≤ k
theorem Sim.mono {s : St} {r : RS} {k j k' j' : Nat} (h : Sim s r k j) (hk : k ≤ k') (hj : j ≤ j') : Sim s r k' j' :=
  { h with fb := fun x => ⟨(h.fb x).1, Int.le_trans (h.fb x).2 (by omega)⟩, fl := Nat.le_trans h.fl hj, c1 := Nat.le_trans h.c1 hk, c2 := Nat.le_trans h.c2 hk, c3 := Nat.le_trans h.c3 hk }
theorem Sim.add {s : St} {r : RS} {k j : Nat} (h : Sim s r k j) (x : Ref) : Sim (addS s x) (raddS r x) (k + 1) j := by
  have hc1 := h.c1
  have hc2 := h.c2
  have hc3 := h.c3
  unfold addS raddS
  by_cases h0 : 0 < num (s.mp 0) x
  · rw [if_pos h0, if_pos ((h.marked x).2 h0)]
    exact h.mono (by omega) (Nat.le_refl _)
  · have key : ∀ y, num (M.put (s.mp 0) x 1) y = if y = x then 1 else num (s.mp 0) y := fun y => num_put _ _ _ _
    rw [if_neg h0, if_neg (fun hm => h0 ((h.marked x).1 hm))]
    have mk : ∀ y, y ∈ r.marked ++ [x] ↔ 0 < num (M.put (s.mp 0) x 1) y := fun y => by
      rw [key, List.mem_append, List.mem_singleton, h.marked]
      by_cases e : y = x
      · subst e; simp
      · simp [e]
    by_cases h1 : num (s.mp 1) x = 0
    · have hx : x ∉ s.line := fun hx => h0 ((h.lin x).1 hx).1
      rw [if_pos h1, if_neg (fun hm => by have := (h.busy x).1 hm; omega)]
      refine { h with line := ?_, nd := ?_, lin := fun y => ?_, marked := mk, m0 := M.nodup_put h.m0 x 1, c1 := ?_, c2 := ?_, c3 := by show s.pile.length ≤ k + 1; omega }
      · show r.line ++ [x] = s.line ++ [x]; rw [h.line]
      · show (s.line ++ [x]).Nodup
        rw [List.nodup_append]
        exact ⟨h.nd, by simp, fun a ha b hb => by rw [List.mem_singleton] at hb; subst hb; exact fun e => hx (e ▸ ha)⟩
      · show y ∈ s.line ++ [x] ↔ 0 < num (M.put (s.mp 0) x 1) y ∧ num (s.mp 1) y = 0
        rw [key, List.mem_append, List.mem_singleton, h.lin]
        by_cases e : y = x
        · subst e; simp [h1]
        · simp [e]
      · show (r.line ++ [x]).length + r.waits.length + r.busy.length ≤ k + 1
        simp only [List.length_append, List.length_cons, List.length_nil]; omega
      · show (r.marked ++ [x]).length + r.waits.length ≤ k + 1
        simp only [List.length_append, List.length_cons, List.length_nil]; omega
    · have hb := h.bn x
      rw [if_neg h1, if_pos ((h.busy x).2 (by omega))]
      refine { h with lin := fun y => ?_, marked := mk, m0 := M.nodup_put h.m0 x 1, c1 := ?_, c2 := ?_, c3 := by show s.pile.length ≤ k + 1; omega }
      · show y ∈ s.line ↔ 0 < num (M.put (s.mp 0) x 1) y ∧ num (s.mp 1) y = 0
        rw [key, h.lin]
        by_cases e : y = x
        · subst e; simp [h1]
        · simp [e]
      · show r.line.length + r.waits.length + r.busy.length ≤ k + 1
        omega
      · show (r.marked ++ [x]).length + r.waits.length ≤ k + 1
        simp only [List.length_append, List.length_cons, List.length_nil]; omega
theorem rfail_fo (l : List Fl) (r x : Ref) : rfail (fo l r) x = if x = r then 0 else rfail l x := by
  induction l with
  | nil => simp [fo, rfail]
  | cons a l ih =>
    unfold fo at *
    rw [List.filter_cons]
    by_cases ha : a.ref = r
    · simp only [ha, ne_eq, not_true_eq_false, decide_false, Bool.false_eq_true, if_false]
      rw [ih]
      by_cases hx : x = r
      · rw [if_pos hx, if_pos hx]
      · rw [if_neg hx, if_neg hx, rfail, ha, if_neg (fun e => hx e.symm)]
    · simp only [ha, ne_eq, not_false_eq_true, decide_true, if_true]
      rw [rfail, rfail, ih]
      by_cases hx : x = r
      · subst hx
        rw [if_neg ha, if_pos rfl, if_pos rfl]
      · rw [if_neg hx, if_neg hx]
theorem rfail_snoc (l : List Fl) (r x : Ref) (n : Int) (h : ∀ y ∈ l, y.ref ≠ r) : rfail (l ++ [⟨r, n⟩]) x = if x = r then n else rfail l x := by
  induction l with
  | nil =>
    simp only [List.nil_append, rfail]
    by_cases hx : x = r
    · rw [if_pos hx, if_pos hx.symm]
    · rw [if_neg hx, if_neg (fun e => hx e.symm)]
  | cons a l ih =>
    have ha := h a (by simp)
    rw [List.cons_append, rfail, rfail, ih (fun y hy => h y (by simp [hy]))]
    by_cases hx : x = r
    · subst hx; rw [if_neg ha, if_pos rfl, if_pos rfl]
    · rw [if_neg hx, if_neg hx]
theorem fo_ne (l : List Fl) (r : Ref) : ∀ y ∈ fo l r, y.ref ≠ r := fun y hy => by simp [fo] at hy; exact hy.2
theorem Sim.forget {s : St} {r : RS} {k j : Nat} (h : Sim s r k j) (x : Ref) : Sim (forgetS s x) (rforgetS r x) k j := by
  have key : ∀ y, num (M.del (s.mp 3) x) y = if y = x then 0 else num (s.mp 3) y := fun y => num_del h.m3 _ _
  refine { h with fail := fun y => ?_, fb := fun y => ?_, fl := Nat.le_trans (List.length_filter_le _ _) h.fl, m3 := M.nodup_del h.m3 x }
  · show num (M.del (s.mp 3) x) y = rfail (fo r.fails x) y
    rw [key, rfail_fo, h.fail]
  · show 0 ≤ num (M.del (s.mp 3) x) y ∧ num (M.del (s.mp 3) x) y ≤ j
    rw [key]
    have := h.fb y
    split <;> omega
theorem Sim.failed {s : St} {r : RS} {k j : Nat} (h : Sim s r k j) (x : Ref) : Sim (againF s x) (ragainF r x) k (j + 1) := by
  have key : ∀ y, num (M.put (s.mp 3) x (num (s.mp 3) x + 1)) y = if y = x then num (s.mp 3) x + 1 else num (s.mp 3) y := fun y => num_put _ _ _ _
  refine { h with fail := fun y => ?_, fb := fun y => ?_, fl := ?_, m3 := M.nodup_put h.m3 x _ }
  · show num (M.put (s.mp 3) x (num (s.mp 3) x + 1)) y = rfail (fo r.fails x ++ [⟨x, rfail r.fails x + 1⟩]) y
    rw [key, rfail_snoc _ _ _ _ (fo_ne _ _), rfail_fo, h.fail, h.fail]
    by_cases e : y = x
    · rw [if_pos e, if_pos e]
    · rw [if_neg e, if_neg e, if_neg e]
  · show 0 ≤ num (M.put (s.mp 3) x (num (s.mp 3) x + 1)) y ∧ num (M.put (s.mp 3) x (num (s.mp 3) x + 1)) y ≤ ((j + 1 : Nat) : Int)
    rw [key]
    have h1 := h.fb y
    have h2 := h.fb x
    split <;> omega
  · show (fo r.fails x ++ [(⟨x, rfail r.fails x + 1⟩ : Fl)]).length ≤ j + 1
    have h1 : (fo r.fails x).length ≤ r.fails.length := List.length_filter_le _ _
    have h2 := h.fl
    simp only [List.length_append, List.length_cons, List.length_nil]; omega
theorem Sim.get {s : St} {r : RS} {k j : Nat} (h : Sim s r k j) : getR s = rgetR r ∧ Sim (getS s) (rgetS r) k j := by
  have hl := h.line
  have hnd := h.nd
  have hc1 := h.c1
  have hc2 := h.c2
  rcases hs : s.line with _ | ⟨x, rest⟩
  · rw [hs] at hl
    have e1 : getS s = s := by simp only [getS, hs]
    have e2 : rgetS r = r := by simp only [rgetS, hl]
    rw [e1, e2]
    exact ⟨by simp only [getR, rgetR, hs, hl], h⟩
  · rw [hs] at hl hnd
    rw [List.nodup_cons] at hnd
    have hx := (h.lin x).1 (by rw [hs]; simp)
    have e1 : getS s = { s with line := rest, mp := fun i => if i = 1 then M.put (s.mp 1) x 1 else if i = 0 then M.del (s.mp 0) x else s.mp i } := by simp only [getS, hs]
    have e2 : rgetS r = { r with line := wo r.line x, marked := wo r.marked x, busy := r.busy ++ [x] } := by simp only [rgetS, hl]
    have k1 : ∀ y, num (M.put (s.mp 1) x 1) y = if y = x then 1 else num (s.mp 1) y := fun y => num_put _ _ _ _
    have k0 : ∀ y, num (M.del (s.mp 0) x) y = if y = x then 0 else num (s.mp 0) y := fun y => num_del h.m0 _ _
    have ew : wo r.line x = rest := by
      rw [hl]
      unfold wo
      rw [List.filter_cons]
      simp only [ne_eq, not_true_eq_false, decide_false, Bool.false_eq_true, if_false]
      rw [List.filter_eq_self]
      intro y hy
      have : y ≠ x := fun e => hnd.1 (e ▸ hy)
      simpa using this
    have hmw : (wo r.marked x).length ≤ r.marked.length := List.length_filter_le _ _
    rw [e1, e2]
    refine ⟨by simp only [getR, rgetR, hs, hl], { h with line := ew, nd := hnd.2, lin := fun y => ?_, marked := fun y => ?_, busy := fun y => ?_, bn := fun y => ?_, m0 := M.nodup_del h.m0 x, m1 := M.nodup_put h.m1 x 1, c1 := ?_, c2 := ?_ }⟩
    · show y ∈ rest ↔ 0 < num (M.del (s.mp 0) x) y ∧ num (M.put (s.mp 1) x 1) y = 0
      rw [k0, k1]
      by_cases e : y = x
      · subst e; simp [hnd.1]
      · have := h.lin y
        rw [hs, List.mem_cons] at this
        simp only [e, false_or, if_false] at this ⊢
        exact this
    · show y ∈ wo r.marked x ↔ 0 < num (M.del (s.mp 0) x) y
      rw [mem_wo, k0, h.marked]
      by_cases e : y = x
      · simp [e]
      · simp [e]
    · show y ∈ r.busy ++ [x] ↔ 0 < num (M.put (s.mp 1) x 1) y
      rw [k1, List.mem_append, List.mem_singleton, h.busy]
      by_cases e : y = x
      · simp [e]
      · simp [e]
    · show 0 ≤ num (M.put (s.mp 1) x 1) y
      rw [k1]; have := h.bn y; split <;> omega
    · show (wo r.line x).length + r.waits.length + (r.busy ++ [x]).length ≤ k
      rw [ew]; rw [hl] at hc1
      simp only [List.length_append, List.length_cons, List.length_nil] at *; omega
    · show (wo r.marked x).length + r.waits.length ≤ k
      omega
theorem wo_lt {l : List Ref} {x : Ref} (h : x ∈ l) : (wo l x).length + 1 ≤ l.length := by
  induction l with
  | nil => simp at h
  | cons a l ih =>
    unfold wo at *
    rw [List.filter_cons]
    by_cases e : a = x
    · have := List.length_filter_le (fun y => decide (y ≠ x)) l
      simp only [e, ne_eq, not_true_eq_false, decide_false, Bool.false_eq_true, if_false, List.length_cons] at *
      omega
    · have := ih (by simpa [Ne.symm e] using h)
      simp only [e, ne_eq, not_false_eq_true, decide_true, if_true, List.length_cons] at *
      omega
theorem Sim.done {s : St} {r : RS} {k j : Nat} (h : Sim s r k j) (x : Ref) : Sim (doneS s x) (rdoneS r x) k j := by
  have hc1 := h.c1
  unfold doneS rdoneS
  by_cases h1 : num (s.mp 1) x = 0
  · rw [if_pos h1, if_neg (fun hm => by have := (h.busy x).1 hm; omega)]
    exact h
  · have hb := h.bn x
    have hbx := (h.busy x).2 (by omega)
    rw [if_neg h1, if_pos hbx]
    have hw := wo_lt hbx
    have key : ∀ y, num (M.del (s.mp 1) x) y = if y = x then 0 else num (s.mp 1) y := fun y => num_del h.m1 _ _
    have hx : x ∉ s.line := fun hx => h1 ((h.lin x).1 hx).2
    have hbz : ∀ y, y ∈ wo r.busy x ↔ 0 < num (M.del (s.mp 1) x) y := fun y => by
      rw [mem_wo, key, h.busy]
      by_cases e : y = x
      · simp [e]
      · simp [e]
    have hn : ∀ y, 0 ≤ num (M.del (s.mp 1) x) y := fun y => by rw [key]; have := h.bn y; split <;> omega
    by_cases h0 : 0 < num (s.mp 0) x
    · rw [if_pos h0, if_pos ((h.marked x).2 h0)]
      refine { h with line := ?_, nd := ?_, lin := fun y => ?_, busy := hbz, bn := hn, m1 := M.nodup_del h.m1 x, c1 := ?_ }
      · show r.line ++ [x] = s.line ++ [x]; rw [h.line]
      · show (s.line ++ [x]).Nodup
        rw [List.nodup_append]
        exact ⟨h.nd, by simp, fun a ha b hb => by rw [List.mem_singleton] at hb; subst hb; exact fun e => hx (e ▸ ha)⟩
      · show y ∈ s.line ++ [x] ↔ 0 < num (s.mp 0) y ∧ num (M.del (s.mp 1) x) y = 0
        rw [key, List.mem_append, List.mem_singleton, h.lin]
        by_cases e : y = x
        · subst e; simp [h0]
        · simp [e]
      · show (r.line ++ [x]).length + r.waits.length + (wo r.busy x).length ≤ k
        simp only [List.length_append, List.length_cons, List.length_nil]; omega
    · rw [if_neg h0, if_neg (fun hm => h0 ((h.marked x).1 hm))]
      refine { h with lin := fun y => ?_, busy := hbz, bn := hn, m1 := M.nodup_del h.m1 x, c1 := ?_ }
      · show y ∈ s.line ↔ 0 < num (s.mp 0) y ∧ num (M.del (s.mp 1) x) y = 0
        rw [key, h.lin]
        by_cases e : y = x
        · subst e; simp [h0]
        · simp [e]
      · show r.line.length + r.waits.length + (wo r.busy x).length ≤ k
        omega
theorem raft_has : ∀ (l : List Item) (r : Ref) (o d : Int), (l.map (·.ref)).Nodup → (⟨o, r⟩ : Item) ∈ l →
    (¬ d < o → raft l r d = l) ∧ (d < o → (raft l r d).map (·.ref) = l.map (·.ref) ∧ ∀ y : Item, y ∈ raft l r d ↔ (y ∈ l ∧ y.ref ≠ r) ∨ y = ⟨d, r⟩)
  | [], _, _, _, _, h => by simp at h
  | a :: l, r, o, d, hn, hm => by
    rw [List.map_cons, List.nodup_cons] at hn
    by_cases ha : a.ref = r
    · have hnot : ∀ y ∈ l, y.ref ≠ r := fun y hy e => hn.1 (by rw [ha, ← e]; exact List.mem_map_of_mem hy)
      have hao : a = ⟨o, r⟩ := by
        rcases List.mem_cons.1 hm with h1 | h1
        · exact h1.symm
        · exact absurd rfl (hnot _ h1)
      have hdue : a.due = o := by rw [hao]
      rw [raft, if_pos ha, hdue]
      refine ⟨fun h => by rw [if_neg h], fun h => ?_⟩
      rw [if_pos h]
      refine ⟨by rw [List.map_cons, List.map_cons, ha], fun y => ?_⟩
      rw [List.mem_cons, List.mem_cons]
      constructor
      · rintro (h1 | h1)
        · exact .inr h1
        · exact .inl ⟨.inr h1, hnot y h1⟩
      · rintro (⟨h1 | h1, h2⟩ | h1)
        · exact absurd (by rw [h1, ha]) h2
        · exact .inr h1
        · exact .inl h1
    · have hml : (⟨o, r⟩ : Item) ∈ l := by
        rcases List.mem_cons.1 hm with h1 | h1
        · exact absurd (by rw [← h1]) ha
        · exact h1
      obtain ⟨i1, i2⟩ := raft_has l r o d hn.2 hml
      rw [raft, if_neg ha]
      refine ⟨fun h => by rw [i1 h], fun h => ?_⟩
      obtain ⟨j1, j2⟩ := i2 h
      refine ⟨by rw [List.map_cons, List.map_cons, j1], fun y => ?_⟩
      rw [List.mem_cons, List.mem_cons, j2]
      constructor
      · rintro (h1 | ⟨h1, h2⟩ | h1)
        · exact .inl ⟨.inl h1, by rw [h1]; exact ha⟩
        · exact .inl ⟨.inr h1, h2⟩
        · exact .inr h1
      · rintro (⟨h1 | h1, h2⟩ | h1)
        · exact .inl h1
        · exact .inr (.inl ⟨h1, h2⟩)
        · exact .inr (.inr h1)
theorem Sim.after {s : St} {r : RS} {k j : Nat} (h : Sim s r k j) (x : Ref) (hx : x.name.size ≤ 200) (m : Int) : Sim (afterS s x m) (rafterS r x m) (k + 1) j := by
  unfold afterS rafterS
  by_cases hm : m < 1
  · rw [if_pos hm, if_pos hm]; exact h.add x
  rw [if_neg hm, if_neg hm, show r.now + clampS m = s.now + clampS m by rw [h.now]]
  generalize s.now + clampS m = D
  have hc1 := h.c1
  have hc2 := h.c2
  have hc3 := h.c3
  obtain ⟨p1, p2⟩ := push_heap h.heap ⟨D, x⟩
  have plen : (upL (s.pile ++ [⟨D, x⟩]) s.pile.length).length = s.pile.length + 1 := by rw [upL_len]; simp
  have pin : ∀ y, y ∈ upL (s.pile ++ [⟨D, x⟩]) s.pile.length ↔ y = ⟨D, x⟩ ∨ y ∈ s.pile := fun y => by rw [p2.mem_iff, List.mem_cons]
  have pil : ∀ y u, M.get (M.put (s.mp 2) x D) y = some u → (⟨u, y⟩ : Item) ∈ upL (s.pile ++ [⟨D, x⟩]) s.pile.length := fun y u hg => by
    rw [M.get_put] at hg
    rw [pin]
    by_cases e : y = x
    · rw [if_pos e] at hg
      cases hg
      exact .inl (by rw [e])
    · rw [if_neg e] at hg
      exact .inr (h.pile y u hg)
  rcases hg : M.get (s.mp 2) x with _ | o
  · have hst : stay s x D = false := by unfold stay; rw [hg]
    have hno : ∀ z ∈ r.waits, z.ref ≠ x := fun z hz e => by
      have := (h.wait z).1 hz
      rw [e, hg] at this; cases this
    have hra : raft r.waits x D = r.waits ++ [⟨D, x⟩] := raft_none _ _ _ (fun i hi => hno _ (List.getElem_mem hi))
    rw [hst, if_neg Bool.false_ne_true, hra]
    refine { h with wait := fun y => ?_, wnd := ?_, wlen := ?_, wname := fun y hy => ?_, pile := pil, heap := ?_, m2 := M.nodup_put h.m2 x D, c1 := ?_, c2 := ?_, c3 := ?_ }
    · show y ∈ r.waits ++ [(⟨D, x⟩ : Item)] ↔ M.get (M.put (s.mp 2) x D) y.ref = some y.due
      rw [M.get_put, List.mem_append, List.mem_singleton, h.wait]
      by_cases e : y.ref = x
      · rw [if_pos e, e, hg]
        constructor
        · rintro (h1 | h1)
          · cases h1
          · rw [h1]
        · intro h1
          refine .inr ?_
          obtain ⟨d, rr⟩ := y
          simp only at e h1
          cases h1
          rw [e]
      · rw [if_neg e]
        constructor
        · rintro (h1 | h1)
          · exact h1
          · exact absurd (by rw [h1]) e
        · exact fun h1 => .inl h1
    · show ((r.waits ++ [(⟨D, x⟩ : Item)]).map (·.ref)).Nodup
      rw [List.map_append, List.nodup_append]
      refine ⟨h.wnd, by simp, fun a ha b hb => ?_⟩
      obtain ⟨z, hz, rfl⟩ := List.mem_map.1 ha
      have : b = x := by simpa using hb
      rw [this]; exact hno z hz
    · show (r.waits ++ [(⟨D, x⟩ : Item)]).length = (M.put (s.mp 2) x D).length
      rw [M.length_put, hg, List.length_append, h.wlen]; rfl
    · rcases List.mem_append.1 hy with h1 | h1
      · exact h.wname y h1
      · rw [List.mem_singleton.1 h1]; exact hx
    · show Hp _ (upL (s.pile ++ [⟨D, x⟩]) s.pile.length).length
      rw [plen]; exact p1
    · show r.line.length + (r.waits ++ [(⟨D, x⟩ : Item)]).length + r.busy.length ≤ k + 1
      simp only [List.length_append, List.length_cons, List.length_nil]; omega
    · show r.marked.length + (r.waits ++ [(⟨D, x⟩ : Item)]).length ≤ k + 1
      simp only [List.length_append, List.length_cons, List.length_nil]; omega
    · show (upL (s.pile ++ [⟨D, x⟩]) s.pile.length).length ≤ k + 1
      rw [plen]; omega
  · have hmem : (⟨o, x⟩ : Item) ∈ r.waits := (h.wait ⟨o, x⟩).2 hg
    obtain ⟨i1, i2⟩ := raft_has r.waits x o D h.wnd hmem
    by_cases hd : D < o
    · have hst : stay s x D = false := by unfold stay; rw [hg]; exact decide_eq_false (by omega)
      obtain ⟨j1, j2⟩ := i2 hd
      have jl : (raft r.waits x D).length = r.waits.length := by have := congrArg List.length j1; simpa using this
      rw [hst, if_neg Bool.false_ne_true]
      refine { h with wait := fun y => ?_, wnd := ?_, wlen := ?_, wname := fun y hy => ?_, pile := pil, heap := ?_, m2 := M.nodup_put h.m2 x D, c1 := ?_, c2 := ?_, c3 := ?_ }
      · show y ∈ raft r.waits x D ↔ M.get (M.put (s.mp 2) x D) y.ref = some y.due
        rw [M.get_put, j2, h.wait]
        by_cases e : y.ref = x
        · rw [if_pos e]
          constructor
          · rintro (⟨_, h1⟩ | h1)
            · exact absurd e h1
            · rw [h1]
          · intro h1
            refine .inr ?_
            obtain ⟨d, rr⟩ := y
            simp only at e h1
            cases h1
            rw [e]
        · rw [if_neg e]
          constructor
          · rintro (⟨h1, _⟩ | h1)
            · exact h1
            · exact absurd (by rw [h1]) e
          · exact fun h1 => .inl ⟨h1, e⟩
      · show ((raft r.waits x D).map (·.ref)).Nodup
        rw [j1]; exact h.wnd
      · show (raft r.waits x D).length = (M.put (s.mp 2) x D).length
        rw [M.length_put, hg, jl, h.wlen]; rfl
      · rcases (j2 y).1 hy with ⟨h1, _⟩ | h1
        · exact h.wname y h1
        · rw [h1]; exact hx
      · show Hp _ (upL (s.pile ++ [⟨D, x⟩]) s.pile.length).length
        rw [plen]; exact p1
      · show r.line.length + (raft r.waits x D).length + r.busy.length ≤ k + 1
        omega
      · show r.marked.length + (raft r.waits x D).length ≤ k + 1
        omega
      · show (upL (s.pile ++ [⟨D, x⟩]) s.pile.length).length ≤ k + 1
        rw [plen]; omega
    · have hst : stay s x D = true := by unfold stay; rw [hg]; exact decide_eq_true (by omega)
      rw [hst, if_pos rfl, i1 hd]
      exact h.mono (by omega) (Nat.le_refl _)
theorem Sim.again {s : St} {r : RS} {k j : Nat} (h : Sim s r k j) (x : Ref) (hx : x.name.size ≤ 200) : Sim (againQ s x) (ragainS r x) (k + 1) (j + 1) := by
  unfold againQ ragainS
  rw [h.base, h.most, ← h.fail]
  exact (h.failed x).after x hx _
theorem Sim.clock {s : St} {r : RS} {k j : Nat} (h : Sim s r k j) (d : Int) : Sim { s with now := s.now + d } { r with now := r.now + d } k j :=
  { h with now := by show r.now + d = s.now + d; rw [h.now] }
/-- the least one that waits is taken out of both -/
theorem Sim.drop {s : St} {r : RS} {k j : Nat} (h : Sim s r k j) (x : Item) (q : List Item) (i : Nat) (hi : i < r.waits.length) (hix : r.waits[i] = x) (hq : Hp q q.length) (hp : (x :: q).Perm s.pile) :
    Sim (dropW (popS s q) x.ref) { r with waits := r.waits.take i ++ r.waits.drop (i + 1) } (k - 1) j ∧ 1 ≤ k := by
  have hc1 := h.c1
  have hc2 := h.c2
  have hc3 := h.c3
  have hpl := hp.length_eq
  rw [List.length_cons] at hpl
  have hxm : x ∈ r.waits := by rw [← hix]; exact List.getElem_mem hi
  have hgx := (h.wait x).1 hxm
  have hspl : r.waits = r.waits.take i ++ x :: r.waits.drop (i + 1) := by
    rw [← hix, ← List.drop_eq_getElem_cons hi, List.take_append_drop]
  have hnd := h.wnd
  rw [hspl, List.map_append, List.map_cons, List.nodup_append, List.nodup_cons] at hnd
  obtain ⟨n1, ⟨n2, n3⟩, n4⟩ := hnd
  have hmem : ∀ y, y ∈ r.waits.take i ++ r.waits.drop (i + 1) ↔ y ∈ r.waits ∧ y.ref ≠ x.ref := fun y => by
    constructor
    · intro hy
      rcases List.mem_append.1 hy with h1 | h1
      · exact ⟨List.mem_of_mem_take h1, n4 _ (List.mem_map_of_mem h1) _ (by simp)⟩
      · exact ⟨List.mem_of_mem_drop h1, fun e => n2 (by rw [← e]; exact List.mem_map_of_mem h1)⟩
    · rintro ⟨h1, h2⟩
      rw [hspl] at h1
      rcases List.mem_append.1 h1 with h3 | h3
      · exact List.mem_append.2 (.inl h3)
      · rcases List.mem_cons.1 h3 with h4 | h4
        · exact absurd (by rw [h4]) h2
        · exact List.mem_append.2 (.inr h4)
  have hlen : (r.waits.take i ++ r.waits.drop (i + 1)).length + 1 = r.waits.length := by
    rw [List.length_append, List.length_take, List.length_drop]; omega
  refine ⟨{ h with wait := fun y => ?_, wnd := ?_, wlen := ?_, wname := fun y hy => h.wname y ((hmem y).1 hy).1, pile := fun y u hg => ?_, heap := hq, m2 := M.nodup_del h.m2 x.ref, c1 := ?_, c2 := ?_, c3 := ?_ }, by omega⟩
  · show y ∈ r.waits.take i ++ r.waits.drop (i + 1) ↔ M.get (M.del (s.mp 2) x.ref) y.ref = some y.due
    rw [hmem, M.get_del h.m2, h.wait]
    by_cases e : y.ref = x.ref
    · rw [if_pos e]; simp [e]
    · rw [if_neg e]; simp [e]
  · show ((r.waits.take i ++ r.waits.drop (i + 1)).map (·.ref)).Nodup
    rw [List.map_append, List.nodup_append]
    exact ⟨n1, n3, fun a ha b hb => n4 a ha b (List.mem_cons_of_mem _ hb)⟩
  · show (r.waits.take i ++ r.waits.drop (i + 1)).length = (M.del (s.mp 2) x.ref).length
    rw [M.length_del, hgx, ← h.wlen]
    show _ = r.waits.length - 1
    omega
  · have hg' : M.get (M.del (s.mp 2) x.ref) y = some u := hg
    rw [M.get_del h.m2] at hg'
    show (⟨u, y⟩ : Item) ∈ q
    by_cases e : y = x.ref
    · rw [if_pos e] at hg'; cases hg'
    · rw [if_neg e] at hg'
      have h1 := hp.mem_iff.2 (h.pile y u hg')
      rcases List.mem_cons.1 h1 with h2 | h2
      · exact absurd (by rw [← h2]) e
      · exact h2
  · show r.line.length + (r.waits.take i ++ r.waits.drop (i + 1)).length + r.busy.length ≤ k - 1
    omega
  · show r.marked.length + (r.waits.take i ++ r.waits.drop (i + 1)).length ≤ k - 1
    omega
  · show q.length ≤ k - 1
    omega
theorem Sim.tick {s s' : St} (p : PT s s') : ∀ {r r' : RS} {k j : Nat}, Sim s r k j → RT r r' → Sim s' r' k j := by
  induction p with
  | stop s hs =>
    intro r r' k j h q
    cases q with
    | stop _ _ => exact h
    | step _ i hi hmin hd _ q =>
      exfalso
      have hm := h.pile _ _ ((h.wait _).1 (List.getElem_mem hi))
      obtain ⟨n, hn, e⟩ := List.getElem_of_mem hm
      have h0 : 0 < s.pile.length := by omega
      have h1 := heap_min h.heap n hn
      rw [val_get (List.getElem?_eq_getElem h0), val_get (List.getElem?_eq_getElem hn), e] at h1
      have h2 := le_due h1
      have h3 := hs _ (List.getElem?_eq_getElem h0)
      rw [h.now] at hd
      have h4 : (r.waits[i]).due ≤ s.now := hd
      have h5 : (s.pile[0]).due ≤ (r.waits[i]).due := h2
      omega
  | skip s n x0 q x s' hn h0 hd hq hm p ih =>
    intro r r' k j h qq
    have hh := h.heap
    rw [hn] at hh
    obtain ⟨e1, e2, e3⟩ := pop_heap hn hh hq
    have hpl := e3.length_eq
    rw [List.length_cons] at hpl
    have hc3 := h.c3
    refine ih { h with pile := fun y u hg => ?_, heap := e2, c3 := by show q.length ≤ k; omega } qq
    have h1 := e3.mem_iff.2 (h.pile y u hg)
    rcases List.mem_cons.1 h1 with h2 | h2
    · exfalso
      have hg' : M.get (s.mp 2) y = some u := hg
      rw [← h2] at hm
      exact hm hg'
    · exact h2
  | take s n x0 q x s' hn h0 hd hq hm p ih =>
    intro r r' k j h qq
    have hh := h.heap
    rw [hn] at hh
    obtain ⟨e1, e2, e3⟩ := pop_heap hn hh hq
    have hv0 : val s.pile 0 = x0 := val_get h0
    have hx0 : x = x0 := e1.trans hv0
    have hxw : x ∈ r.waits := (h.wait x).2 hm
    cases qq with
    | stop _ hs =>
      exfalso
      have h1 := hs x hxw
      rw [h.now] at h1
      have h2 : x.due ≤ s.now := by rw [hx0]; exact hd
      omega
    | step _ i hi hmin hdi _ qq =>
      obtain ⟨a, ha, ea⟩ := List.getElem_of_mem hxw
      have l1 := hmin a ha
      rw [ea] at l1
      have hmi := h.pile _ _ ((h.wait _).1 (List.getElem_mem hi))
      obtain ⟨b, hb, eb⟩ := List.getElem_of_mem hmi
      have l2 := heap_min hh b (by omega)
      rw [← e1, val_get (List.getElem?_eq_getElem hb), eb] at l2
      have hix : r.waits[i] = x := LE.antisymm l1 l2
      obtain ⟨h1, hk⟩ := h.drop x q i hi hix e2 e3
      rw [hix] at qq
      have h2 := h1.add x.ref
      rw [show k - 1 + 1 = k by omega] at h2
      exact ih h2 qq
theorem Sim.start (base top : Int) : Sim (St0 base top) (RS0 base top) 0 0 where
  base := rfl
  most := rfl
  now := rfl
  line := rfl
  nd := List.nodup_nil
  lin x := by constructor
              · intro h; exact absurd h (by simp [St0])
              · rintro ⟨h, _⟩; exact absurd h (by rw [show num ((St0 base top).mp 0) x = 0 from rfl]; omega)
  marked x := by constructor
                 · intro h; exact absurd h (by simp [RS0])
                 · intro h; exact absurd h (by rw [show num ((St0 base top).mp 0) x = 0 from rfl]; omega)
  busy x := by constructor
               · intro h; exact absurd h (by simp [RS0])
               · intro h; exact absurd h (by rw [show num ((St0 base top).mp 1) x = 0 from rfl]; omega)
  bn x := by rw [show num ((St0 base top).mp 1) x = 0 from rfl]; omega
  fail x := rfl
  fb x := by rw [show num ((St0 base top).mp 3) x = 0 from rfl]; omega
  fl := Nat.le_refl _
  wait x := by constructor
               · intro h; exact absurd h (by simp [RS0])
               · intro h; cases h
  wnd := List.nodup_nil
  wlen := rfl
  wname x h := absurd h (by simp [RS0])
  pile x u h := by cases h
  heap := fun c hc hcn => absurd hcn (by show ¬ c < 0; omega)
  m0 := List.Pairwise.nil
  m1 := List.Pairwise.nil
  m2 := List.Pairwise.nil
  m3 := List.Pairwise.nil
  c1 := Nat.le_refl _
  c2 := Nat.le_refl _
  c3 := Nat.le_refl _
end Go.Proofs.Ythmknlflgajnpaa
