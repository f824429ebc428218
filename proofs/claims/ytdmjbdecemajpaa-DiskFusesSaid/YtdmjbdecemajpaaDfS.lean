/- The reference's Play does what the disk does, while the disk is on. -/
import Derived.Test.YtdmjbdecemajpaaDf7
import Derived.Test.YtdmjbdecemajpaaDf8
namespace Go.Proofs.Ytdmjbdecemajpaa.D
set_option linter.unusedVariables false
set_option linter.unusedSimpArgs false
open Go.RowKit
theorem strict_ext : ∀ (l1 l2 : List Int), l1.Pairwise (· < ·) → l2.Pairwise (· < ·) → (∀ a, a ∈ l1 ↔ a ∈ l2) → l1 = l2
  | [], [], _, _, _ => rfl
  | [], b :: l2, _, _, h => by have := (h b).2 List.mem_cons_self; simp at this
  | a :: l1, [], _, _, h => by have := (h a).1 List.mem_cons_self; simp at this
  | a :: l1, b :: l2, h1, h2, h => by
    rw [List.pairwise_cons] at h1 h2
    have hab : a = b := by
      rcases List.mem_cons.1 ((h a).1 List.mem_cons_self) with e | e
      · exact e
      · rcases List.mem_cons.1 ((h b).2 List.mem_cons_self) with e' | e'
        · exact e'.symm
        · have := h1.1 b e'; have := h2.1 a e; omega
    subst hab
    rw [strict_ext l1 l2 h1.2 h2.2 fun c => ⟨fun hc => ?_, fun hc => ?_⟩]
    · rcases List.mem_cons.1 ((h c).1 (List.mem_cons_of_mem _ hc)) with e | e
      · have := h1.1 c hc; omega
      · exact e
    · rcases List.mem_cons.1 ((h c).2 (List.mem_cons_of_mem _ hc)) with e | e
      · have := h2.1 c hc; omega
      · exact e
theorem keys_lt {s : DS} (h : M.Nodup s.files) : s.keys.Pairwise (· < ·) := by
  have h1 : s.keys.Pairwise (fun a b => leI a b = true) := List.pairwise_mergeSort (fun a b c h1 h2 => by simp [leI] at *; omega) (fun a b => by simp [leI]; omega) _
  have h2 : s.keys.Pairwise (· ≠ ·) := keys_nd h
  refine (h1.and h2).imp ?_
  rintro a b ⟨h3, h4⟩
  have : a ≤ b := by simpa [leI] using h3
  omega
theorem keys_ne {s : DS} (h : M.Nodup s.files) {j k : Nat} (hj : j < s.keys.length) (hk : k < s.keys.length) (hne : j ≠ k) : s.keys[j] ≠ s.keys[k] := by
  have hp := List.pairwise_iff_getElem.1 (keys_lt h)
  rcases Nat.lt_or_gt_of_ne hne with h1 | h1
  · have := hp j k hj hk h1; omega
  · have := hp k j hk hj h1; omega
theorem at_keys {s : DS} (h : M.Nodup s.files) (k : Nat) (hk : k < s.keys.length) : atI (s.keys.map (ent s)) s.keys[k] = k :=
  at_at _ _ k (by simpa using hk) (fun j hj hjk => by
    rw [List.getElem_map]
    have hj' : j < s.keys.length := by omega
    show s.keys[j] ≠ s.keys[k]
    exact keys_ne h hj' hk (by omega)) (by rw [List.getElem_map]; rfl)
theorem at_keys_none {s : DS} {no : Int} (hn : (M.get s.files no).isSome = false) : atI (s.keys.map (ent s)) no = -1 :=
  at_none _ _ (fun j hj e => by
    rw [List.getElem_map] at e
    have hj' : j < s.keys.length := by simpa using hj
    have e' : s.keys[j] = no := e
    have h2 := (keys_mem (s := s) no).1 (e' ▸ List.getElem_mem _)
    rw [hn] at h2; cases h2)
theorem ent_put (s : DS) (no a : Int) (f : Fl) : ent (s.put no f) a = if a = no then ⟨no, f.data.extract 0 f.safe, f.data.extract f.safe f.data.size⟩ else ent s a := by
  show (⟨a, ((M.get (M.put s.files no f) a).getD fl0).data.extract 0 ((M.get (M.put s.files no f) a).getD fl0).safe, ((M.get (M.put s.files no f) a).getD fl0).data.extract ((M.get (M.put s.files no f) a).getD fl0).safe ((M.get (M.put s.files no f) a).getD fl0).data.size⟩ : RF) = _
  rw [M.get_put]
  split
  · rename_i e; subst e; rfl
  · rfl
theorem keys_put {s : DS} (h : M.Nodup s.files) {no : Int} (f : Fl) (hs : (M.get s.files no).isSome = true) : (s.put no f).keys = s.keys :=
  strict_ext _ _ (keys_lt (s := s.put no f) (M.nodup_put h no f)) (keys_lt h) fun a => by
    rw [keys_mem, keys_mem]
    show (M.get (M.put s.files no f) a).isSome = true ↔ _
    rw [M.get_put]
    by_cases e : a = no
    · subst e; simp [hs]
    · rw [if_neg e]
theorem set_put {s : DS} (h : M.Nodup s.files) {no : Int} (f : Fl) (k : Nat) (hk : k < s.keys.length) (hn : s.keys[k] = no) : (s.put no f).keys.map (ent (s.put no f)) = (s.keys.map (ent s)).set k ⟨no, f.data.extract 0 f.safe, f.data.extract f.safe f.data.size⟩ := by
  rw [keys_put h f ((keys_mem (s := s) no).1 (hn ▸ List.getElem_mem _))]
  apply List.ext_getElem (by simp)
  intro j h1 h2
  have hj : j < s.keys.length := by simpa using h1
  rw [List.getElem_map, List.getElem_set, ent_put]
  by_cases e : k = j
  · subst e; rw [if_pos hn, if_pos rfl]
  · rw [if_neg (fun e' => keys_ne h hj hk (fun h3 => e h3.symm) (e'.trans hn.symm)), if_neg e, List.getElem_map]
theorem ins_put {s : DS} (h : M.Nodup s.files) {no : Int} (f : Fl) (hs : (M.get s.files no).isSome = false) (i : Nat) (hi : IsIns (s.keys.map (ent s)) no i) : (s.put no f).keys.map (ent (s.put no f)) = (s.keys.map (ent s)).take i ++ ⟨no, f.data.extract 0 f.safe, f.data.extract f.safe f.data.size⟩ :: (s.keys.map (ent s)).drop i := by
  have hno : ∀ a ∈ s.keys, a ≠ no := fun a ha e => by
    have h2 := (keys_mem (s := s) a).1 ha
    rw [e, hs] at h2; cases h2
  have hlt := keys_lt h
  have hp := List.pairwise_iff_getElem.1 hlt
  have hile : i ≤ s.keys.length := by simpa using hi.le
  have hlo : ∀ a ∈ s.keys.take i, a < no := fun a ha => by
    obtain ⟨j, hj, e⟩ := List.mem_iff_getElem.1 ha
    rw [List.length_take] at hj
    have := hi.lo j (by simp; omega) (by omega)
    rw [List.getElem_map] at this
    rw [List.getElem_take] at e
    rw [← e]; exact this
  have hhi : ∀ a ∈ s.keys.drop i, no < a := fun a ha => by
    obtain ⟨j, hj, e⟩ := List.mem_iff_getElem.1 ha
    rw [List.length_drop] at hj
    rw [List.getElem_drop] at e
    have hik : i < s.keys.length := by omega
    have h0 := hi.hi (by simpa using hik)
    rw [List.getElem_map] at h0
    replace h0 : ¬ s.keys[i] < no := h0
    have h1 := hno _ (List.getElem_mem hik)
    rw [← e]
    rcases Nat.eq_zero_or_pos j with rfl | hj0
    · show no < s.keys[i]; omega
    · have := hp i (i + j) hik (by omega) (by omega); omega
  have hk : (s.put no f).keys = s.keys.take i ++ no :: s.keys.drop i := by
    refine strict_ext _ _ (keys_lt (s := s.put no f) (M.nodup_put h no f)) ?_ fun a => ?_
    · rw [List.pairwise_append]
      refine ⟨hlt.sublist (List.take_sublist _ _), List.pairwise_cons.2 ⟨hhi, hlt.sublist (List.drop_sublist _ _)⟩, fun a ha b hb => ?_⟩
      have := hlo a ha
      rcases List.mem_cons.1 hb with e | e
      · omega
      · have := hhi b e; omega
    · rw [keys_mem]
      show (M.get (M.put s.files no f) a).isSome = true ↔ _
      rw [M.get_put]
      have hm : a ∈ s.keys ↔ a ∈ s.keys.take i ∨ a ∈ s.keys.drop i := by
        rw [← List.mem_append, List.take_append_drop]
      by_cases e : a = no
      · subst e; simp
      · rw [if_neg e, ← keys_mem, hm]; simp [e]
  rw [hk, List.map_append, List.map_cons, List.map_take, List.map_drop]
  have hc : s.keys.map (ent (s.put no f)) = s.keys.map (ent s) := List.map_congr_left fun a ha => by rw [ent_put, if_neg (hno a ha)]
  rw [hc, ent_put, if_pos rfl]
theorem cut_del {s : DS} (h : M.Nodup s.files) {no : Int} (k : Nat) (hk : k < s.keys.length) (hn : s.keys[k] = no) : (s.del no).keys.map (ent (s.del no)) = (s.keys.map (ent s)).take k ++ (s.keys.map (ent s)).drop (k + 1) := by
  have hlt := keys_lt h
  have hp := List.pairwise_iff_getElem.1 hlt
  have hlo : ∀ a ∈ s.keys.take k, a < no := fun a ha => by
    obtain ⟨j, hj, e⟩ := List.mem_iff_getElem.1 ha
    rw [List.length_take] at hj
    rw [List.getElem_take] at e
    have := hp j k (by omega) hk (by omega)
    omega
  have hhi : ∀ a ∈ s.keys.drop (k + 1), no < a := fun a ha => by
    obtain ⟨j, hj, e⟩ := List.mem_iff_getElem.1 ha
    rw [List.length_drop] at hj
    rw [List.getElem_drop] at e
    have := hp k (k + 1 + j) hk (by omega) (by omega)
    omega
  have hsp : s.keys = s.keys.take k ++ no :: s.keys.drop (k + 1) := by
    rw [← hn, ← List.drop_eq_getElem_cons hk, List.take_append_drop]
  have hkk : (s.del no).keys = s.keys.take k ++ s.keys.drop (k + 1) := by
    refine strict_ext _ _ (keys_lt (s := s.del no) (M.nodup_del h no)) ?_ fun a => ?_
    · rw [List.pairwise_append]
      exact ⟨hlt.sublist (List.take_sublist _ _), hlt.sublist (List.drop_sublist _ _), fun a ha b hb => by have := hlo a ha; have := hhi b hb; omega⟩
    · rw [keys_mem]
      show (M.get (M.del s.files no) a).isSome = true ↔ _
      rw [M.get_del h]
      have hm : a ∈ s.keys ↔ a ∈ s.keys.take k ∨ a = no ∨ a ∈ s.keys.drop (k + 1) := by
        conv => lhs; rw [hsp]
        simp
      by_cases e : a = no
      · subst e
        rw [if_pos rfl]
        constructor
        · intro h; cases h
        · intro h3
          rcases List.mem_append.1 h3 with h3 | h3
          · have := hlo _ h3; omega
          · have := hhi _ h3; omega
      · rw [if_neg e, ← keys_mem, hm]; simp [e]
  rw [hkk, List.map_append, List.map_take, List.map_drop]
  have hent : ∀ a, a ≠ no → ent (s.del no) a = ent s a := fun a ha => by
    show (⟨a, ((M.get (M.del s.files no) a).getD fl0).data.extract 0 ((M.get (M.del s.files no) a).getD fl0).safe, ((M.get (M.del s.files no) a).getD fl0).data.extract ((M.get (M.del s.files no) a).getD fl0).safe ((M.get (M.del s.files no) a).getD fl0).data.size⟩ : RF) = _
    rw [M.get_del h, if_neg ha]; rfl
  congr 1
  · rw [← List.map_take, ← List.map_take]
    exact List.map_congr_left fun a ha => hent a (by have := hlo a ha; omega)
  · rw [← List.map_drop, ← List.map_drop]
    exact List.map_congr_left fun a ha => hent a (by have := hhi a ha; omega)
/-- the keys and files of a disk do not know its steps -/
theorem ent_step (s : DS) : (stepS s).keys.map (ent (stepS s)) = s.keys.map (ent s) := by unfold stepS; split <;> rfl
theorem ext_tail (d : ByteArray) (t : ByteArray) (a : Nat) (h : a ≤ d.size) : (d ++ t).extract a (d ++ t).size = d.extract a d.size ++ t := by
  apply ByteArray.ext
  have h' : a ≤ d.data.size := h
  have e1 : (d ++ t).size = d.data.size + t.data.size := ByteArray.size_append
  rw [e1]
  simp [Array.extract_append]
  have hd : d.data.size = d.size := rfl
  have ht : t.data.size = t.size := rfl
  congr 1
  · apply Array.ext
    · simp
    · intro i h1 h2
      simp
  · rw [show a - d.size = 0 by omega]
    apply Array.ext
    · simp
    · intro i h1 h2
      simp
theorem ext_none (d : ByteArray) : d.extract d.size d.size = ⟨#[]⟩ := by
  apply ByteArray.ext
  simp
theorem ext_in (d : ByteArray) (a z : Nat) (h : a ≤ z) : (d.extract 0 z).extract 0 a = d.extract 0 a := ext_ext d a z h
end Go.Proofs.Ytdmjbdecemajpaa.D
