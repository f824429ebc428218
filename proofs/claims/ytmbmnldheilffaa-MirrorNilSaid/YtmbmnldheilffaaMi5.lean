/- Rows of names: one more in its place, one less: slices.BinarySearch, slices.Insert, slices.DeleteFunc on rows that the mirror owns. -/
import Derived.Test.YtmbmnldheilffaaMi4
namespace Go.Proofs.Ytmbmnldheilffaa
set_option linter.unusedVariables false
set_option linter.unusedSimpArgs false
open Go.RowKit Go.Sort
theorem cS_map (l : List ByteArray) : l.flatMap cS = l.map Value.string := by
  induction l with
  | nil => rfl
  | cons a l ih => rw [List.flatMap_cons, ih]; rfl
/-- the cells of a block behind stores in a row -/
theorem setCells_at {g : Nat} {t : TypeId} : ∀ (vs : List Value) (o : Nat) (w : World) (cur : Array Value), w.heap[g]? = some (.cells cur t (0, 0)) →
    ∃ cur' : Array Value, (w.setCells g o vs).heap[g]? = some (.cells cur' t (0, 0)) ∧ cur'.size = cur.size ∧ ∀ j, j < cur.size → cur'[j]? = if o ≤ j ∧ j < o + vs.length then vs[j - o]? else cur[j]?
  | [], o, w, cur, h => ⟨cur, h, rfl, fun j _ => by rw [if_neg (by rintro ⟨a, b⟩; simp at b; omega)]⟩
  | v :: vs, o, w, cur, h => by
    obtain ⟨c', h1, h2, h3⟩ := setCells_at vs (o + 1) (w.setCell ⟨g, o, none⟩ v) (cur.setIfInBounds o v) (heap_setCell_same _ _ _ _ _ _ h)
    refine ⟨c', h1, by rw [h2]; simp, fun j hj => ?_⟩
    rw [h3 j (by simpa using hj)]
    by_cases e : j = o
    · subst e
      rw [if_neg (by omega), if_pos (by simp), Nat.sub_self]
      simp [hj]
    · by_cases h4 : o + 1 ≤ j ∧ j < o + 1 + vs.length
      · rw [if_pos h4, if_pos (by simp; omega), show j - o = (j - (o + 1)) + 1 by omega]
        rfl
      · rw [if_neg h4, if_neg (by simp; omega)]
        simp [Ne.symm e]
theorem setCells_grown {w : World} {g : Nat} : ∀ (vs : List Value) (o : Nat), w.grownBy (w.setCells g o vs) (some g)
  | [], o => World.grownBy.refl _ _
  | v :: vs, o => World.grownBy.trans (show w.grownBy (w.setCell ⟨g, o, none⟩ v) (some g) from ⟨rfl, rfl, rfl, by simp [World.setCell], fun i _ hi => Below.heap_setCell _ _ _ _ (fun e => hi (by rw [e]))⟩) (setCells_grown vs (o + 1))
theorem row_of_cells {w : World} {B g m c : Nat} {cur : Array Value} {ys : List Value} (hB : B ≤ g) (hh : w.heap[g]? = some (.cells cur 9 (0, 0))) (hs : cur.size = c) (h1 : m ≤ c) (h2 : c ≤ maxLen) (hl : ys.length = m) (hc : ∀ j, j < m → cur[j]? = ys[j]?) :
    w.ownsRow B 9 1 (.slice (some ⟨g, 0, none⟩) m c) m ys := by
  refine ⟨by omega, .inr ⟨g, c, cur, rfl, hB, hh, h1, h2, by omega, ?_⟩⟩
  refine List.ext_getElem? fun j => ?_
  rw [List.getElem?_take]
  by_cases hj : j < m
  · rw [if_pos (by omega), Array.getElem?_toList]
    exact hc j hj
  · rw [if_neg (by omega), List.getElem?_eq_none (by omega)]
/-- slices.Insert of one text into a row that the call owns -/
theorem insert_own (B : Nat) (xs : List Value) (A : Option Addr) (n c i vb : Nat) (u : ByteArray) (w : World) (h : w.ownsRow B 9 1 (.slice A n c) n xs) (h1c : ∀ v ∈ xs, v.oneCell' = true) (hn : n ≤ 1000000) (hi : i ≤ n) (hB : B ≤ w.heap.size)
    (hv : w.heap[vb]? = some (.cells #[.string u] 9 (0, 0))) (hvb : (Value.slice A n c).ownBlock ≠ some vb) :
    Calls Try.prog 50 #[.slice A n c, .int .i64 i, .slice (some ⟨vb, 0, none⟩) 1 1] w fun e w' => ∃ (A' : Option Addr) (c' : Nat), e = .returned (.slice A' (n + 1) c') ∧
      w'.ownsRow B 9 1 (.slice A' (n + 1) c') (n + 1) (xs.take i ++ .string u :: xs.drop i) ∧ w.grownBy w' (Value.slice A n c).ownBlock ∧ ∀ j, (Value.slice A' (n + 1) c').ownBlock = some j → (Value.slice A n c).ownBlock = some j ∨ w.heap.size ≤ j := by
  have hvc : ∀ j v, [Value.string u][j]? = some v → w.cell? ⟨vb, 0 + j, none⟩ = some v := fun j v hj => by
    cases j with
    | zero => simp only [List.getElem?_cons_zero, Option.some.injEq] at hj; subst hj; simp [World.cell?, hv]
    | succ j => simp at hj
  have h1v : ∀ v ∈ [Value.string u], v.oneCell' = true := by intro v hv; simp only [List.mem_singleton] at hv; subst hv; rfl
  have hxl : xs.length = n := by have := h.1; omega
  have hx63 : n + 1 ≤ maxLen := by unfold maxLen; omega
  have hz : ∀ m : Nat, (Builtin.zeroCells (Value.string ⟨#[]⟩).cells m).size = m := fun m => by simp [Builtin.zeroCells, Value.cells]
  -- no room: a new row, at the end
  have hgrow_end : ∀ (base : Option Addr), A = base → c < n + 1 → i = n → (base = none → n = 0) → (∀ a, base = some a → ∀ j v, xs[j]? = some v → w.cell? (a.add j) = some v) → n ≤ c →
      Calls Try.prog 50 #[.slice A n c, .int .i64 i, .slice (some ⟨vb, 0, none⟩) 1 1] w fun e w' => ∃ (A' : Option Addr) (c' : Nat), e = .returned (.slice A' (n + 1) c') ∧
      w'.ownsRow B 9 1 (.slice A' (n + 1) c') (n + 1) (xs.take i ++ .string u :: xs.drop i) ∧ w.grownBy w' (Value.slice A n c).ownBlock ∧ ∀ j, (Value.slice A' (n + 1) c').ownBlock = some j → (Value.slice A n c).ownBlock = some j ∨ w.heap.size ≤ j := fun base hb hroom hin hnil hcs hnc => by
    subst hb; subst hin
    have hc := Any2.slices_Insert_string_end_grow Try.insS A i c vb 0 1 1 xs [.string u] w (by omega) hnc hroom (by omega) hxl rfl hnil hcs hvc h1v
    refine hc.mono ?_
    rintro e w' ⟨rfl, rfl⟩
    refine ⟨_, _, rfl, ?_, ?_, ?_⟩
    · refine row_of_cells hB (by rw [show (w.drew.alloc _).heap[w.heap.size]? = (w.drew.alloc _).heap[w.drew.heap.size]? from rfl]; exact G.heap_new _ _) ?_ (grownCap_ge _ _ _ _) (grownCap_le_maxLen _ _ _ _ hx63) (by simp; omega) (fun j hj => ?_)
      · have := grownCap_ge w (i + 1) c 9
        simp only [Array.size_append, List.size_toArray, List.length_append, hz, List.length_cons, List.length_nil]
        show xs.length + (0 + 1) + (grownCap w (i + 1) c 9 - (i + 1)) = grownCap w (i + 1) c 9
        omega
      · rw [Array.getElem?_append_left (by simp; omega), List.getElem?_toArray, ← hxl, List.take_length, List.drop_length]
    · exact ⟨rfl, rfl, rfl, by simp, fun k hk _ => Below.heap_alloc _ _ k hk⟩
    · intro j hj
      have : w.heap.size = j := by simpa [Value.ownBlock] using hj
      exact .inr (by omega)
  obtain ⟨_, ⟨hv1, h0⟩ | ⟨g, cap, cur, hv1, hBg, hh, h2, h3, h4, h5⟩⟩ := h
  · injection hv1 with e1 e2 e3
    subst e1; subst e2; subst e3
    exact hgrow_end none rfl (by omega) (by omega) (fun _ => rfl) (fun a e => by cases e) (by omega)
  · injection hv1 with e1 e2 e3
    subst e1; subst e3
    have hcell : ∀ j v, xs[j]? = some v → w.cell? ⟨g, 0 + j, none⟩ = some v := fun j v hj => by
      have hjl : j < n := by
        rcases Nat.lt_or_ge j xs.length with hx | hx
        · omega
        · rw [List.getElem?_eq_none hx] at hj; simp at hj
      rw [Nat.zero_add]
      simp only [World.cell?, hh]
      rw [← h5, List.getElem?_take, if_pos (by omega), Array.getElem?_toList] at hj
      exact hj
    have hcur : ∀ j, j < n → cur[j]? = xs[j]? := fun j hj => by
      rw [← h5, List.getElem?_take, if_pos (by omega), Array.getElem?_toList]
    have hsome : ∀ j, j < c → (w.cell? ⟨g, 0 + j, none⟩).isSome = true := fun j hj => by
      rw [Nat.zero_add]; simp only [World.cell?, hh]
      rw [Array.getElem?_eq_getElem (by omega)]; rfl
    have hfree : ∀ j, w.frozen? ⟨g, j, none⟩ = false := fun j => by simp [World.frozen?, hh]
    have hgv : vb ≠ g := fun e => hvb (by subst e; rfl)
    by_cases hin : i = n
    · by_cases hroom : n + 1 ≤ c
      · subst hin
        have hc := Any2.slices_Insert_string_end_room Try.insS g 0 i c vb 0 1 1 [.string u] w (by omega) hroom (by unfold maxLen at h3; omega) rfl (fun j hj => by have := hsome (i + j) (by omega); rwa [← Nat.add_assoc] at this) (fun j _ => hfree _) hvc h1v
        refine hc.mono ?_
        rintro e w' ⟨rfl, rfl⟩
        obtain ⟨cur', c1, c2, c3⟩ := setCells_at [.string u] (0 + i) w cur hh
        refine ⟨_, _, rfl, ?_, setCells_grown _ _, fun j hj => .inl hj⟩
        refine row_of_cells hBg c1 (by omega) hroom h3 (by simp; omega) fun j hj => ?_
        rw [c3 j (by omega), ← hxl, List.take_length, List.drop_length]
        by_cases hji : j = i
        · subst hji
          rw [if_pos (by simp; omega), List.getElem?_append_right (by omega), hxl]
          simp
        · rw [if_neg (by simp; omega), hcur j (by omega), List.getElem?_append_left (by omega)]
      · exact hgrow_end (some ⟨g, 0, none⟩) rfl (by omega) hin (fun e => by cases e) (fun a e j v hj => by cases e; rw [G.add_plain]; exact hcell j v hj) h2
    · have hlt : i < n := by omega
      have htgt : (xs.take i ++ Value.string u :: xs.drop i).length = n + 1 := by simp; omega
      have tgt : ∀ j, j < n + 1 → (xs.take i ++ Value.string u :: xs.drop i)[j]? = if j < i then xs[j]? else if j = i then some (.string u) else xs[j - 1]? := fun j hj => by
        by_cases h1 : j < i
        · rw [if_pos h1, List.getElem?_append_left (by simp; omega), List.getElem?_take, if_pos h1]
        · rw [if_neg h1, List.getElem?_append_right (by simp; omega), List.length_take, Nat.min_eq_left (by omega)]
          by_cases h2 : j = i
          · rw [if_pos h2, h2, Nat.sub_self]; rfl
          · rw [if_neg h2, show j - i = (j - i - 1) + 1 by omega, List.getElem?_cons_succ, List.getElem?_drop]
            congr 1
            omega
      by_cases hroom : n + 1 ≤ c
      · have hc := Any2.slices_Insert_string_shift Try.insS g 0 n c i vb 0 1 1 xs [.string u] w hlt (by omega) hroom (by unfold maxLen at h3; omega) hgv hxl rfl hcell (fun j hj => hsome j (by omega)) (fun j _ => hfree _) hvc h1c h1v 9 9 1 cur.size
          (by unfold World.shape?; rw [hv]; rfl) (by unfold World.shape?; rw [hh]) (by omega) (by simp [World.frozen?, hv]) (by simp [World.frozen?, hv])
        refine hc.mono ?_
        rintro e w' ⟨rfl, rfl⟩
        obtain ⟨cur1, c1, c2, c3⟩ := setCells_at (xs.drop i) (0 + (i + 1)) w.drew cur hh
        obtain ⟨cur', d1, d2, d3⟩ := setCells_at [.string u] (0 + i) _ cur1 c1
        refine ⟨_, _, rfl, ?_, ?_, fun j hj => .inl hj⟩
        · refine row_of_cells hBg d1 (by omega) hroom h3 htgt fun j hj => ?_
          rw [d3 j (by omega), tgt j hj]
          by_cases hji : j = i
          · rw [if_pos (by simp; omega), if_neg (by omega), if_pos hji, hji]
            simp
          · rw [if_neg (by simp; omega), c3 j (by omega)]
            by_cases h1 : j < i
            · rw [if_neg (by simp; omega), if_pos h1, hcur j (by omega)]
            · rw [if_pos (by simp; omega), if_neg h1, if_neg hji, List.getElem?_drop]
              congr 1
              omega
        · refine World.grownBy.trans (World.grownBy.trans (show w.grownBy w.drew (some g) from ⟨rfl, rfl, rfl, Nat.le_refl _, fun _ _ _ => rfl⟩) (setCells_grown _ _)) (setCells_grown _ _)
      · have hc := Any2.slices_Insert_string_grow Try.insS g 0 n c i vb 0 1 1 xs [.string u] w hlt (by omega) h2 (by omega) (by omega) hxl rfl hcell hvc h1c h1v
        refine hc.mono ?_
        rintro e w' ⟨rfl, rfl⟩
        obtain ⟨cp, hcp⟩ : ∃ cp, cp = grownCap w (n + 1) c 9 := ⟨_, rfl⟩
        have hge := grownCap_ge w (n + 1) c 9
        have hle := grownCap_le_maxLen w (n + 1) c 9 hx63
        show ∃ (A' : Option Addr) (c' : Nat), Ending.returned (Value.slice (some ⟨w.heap.size, 0, none⟩) (n + 1) (grownCap w (n + 1) c 9)) = .returned (.slice A' (n + 1) c') ∧ _
        obtain ⟨C0, hC0⟩ : ∃ C0 : Array Value, C0 = (xs.take i).toArray ++ Builtin.zeroCells (Value.string ⟨#[]⟩).cells (n + 1 - i) ++ Builtin.zeroCells (Value.string ⟨#[]⟩).cells (grownCap w (n + 1) c 9 - (n + 1)) := ⟨_, rfl⟩
        have hsz : C0.size = grownCap w (n + 1) c 9 := by
          rw [hC0]
          simp only [Array.size_append, List.size_toArray, List.length_take, hz]
          omega
        have hC : ∀ j, j < i → C0[j]? = xs[j]? := fun j hj => by
          rw [hC0, Array.getElem?_append_left (by simp; omega), Array.getElem?_append_left (by simp; omega), List.getElem?_toArray, List.getElem?_take, if_pos hj]
        have hfin : ∀ W : World, W = (((w.alloc (.cells C0 9)).drew.setCells w.heap.size i [.string u]).drew).setCells w.heap.size (i + 1) (xs.drop i) →
            W.ownsRow B 9 1 (.slice (some ⟨w.heap.size, 0, none⟩) (n + 1) (grownCap w (n + 1) c 9)) (n + 1) (xs.take i ++ .string u :: xs.drop i) ∧ w.grownBy W (Value.slice (some ⟨g, 0, none⟩) n c).ownBlock := fun W hW => by
          obtain ⟨cur1, c1, c2, c3⟩ := setCells_at [.string u] i (w.alloc (.cells C0 9)).drew C0 (G.heap_new w _)
          obtain ⟨cur', d1, d2, d3⟩ := setCells_at (xs.drop i) (i + 1) ((w.alloc (.cells C0 9)).drew.setCells w.heap.size i [.string u]).drew cur1 c1
          rw [hW]
          refine ⟨row_of_cells hB d1 (by omega) hge hle htgt fun j hj => ?_, ?_⟩
          · rw [d3 j (by omega), tgt j hj]
            by_cases h1 : j < i
            · rw [if_neg (by simp; omega), c3 j (by omega), if_neg (by simp; omega), if_pos h1, hC j h1]
            · by_cases hji : j = i
              · rw [if_neg (by simp; omega), c3 j (by omega), if_pos (by simp; omega), if_neg h1, if_pos hji, hji]
                simp
              · rw [if_pos (by simp; omega), if_neg h1, if_neg hji, List.getElem?_drop]
                congr 1
                omega
          · have b0 : Below w.heap.size w (w.alloc (.cells C0 9)) := bel_alloc _ _
            have g1 := setCells_grown (w := (w.alloc (.cells C0 9)).drew) (g := w.heap.size) [.string u] i
            have g2 := setCells_grown (w := ((w.alloc (.cells C0 9)).drew.setCells w.heap.size i [.string u]).drew) (g := w.heap.size) (xs.drop i) (i + 1)
            refine ⟨g2.os.trans (g1.os.trans b0.os), g2.tape.trans (g1.tape.trans b0.tape), g2.output.trans (g1.output.trans b0.output), Nat.le_trans b0.size (Nat.le_trans g1.size g2.size), fun k hk _ => ?_⟩
            have hne : some k ≠ some w.heap.size := fun e => by injection e with e; omega
            exact (g2.block k (Nat.lt_of_lt_of_le hk (Nat.le_trans b0.size g1.size)) hne).trans ((g1.block k (Nat.lt_of_lt_of_le hk b0.size) hne).trans (b0.block k hk))
        obtain ⟨f1, f2⟩ := hfin _ rfl
        refine ⟨_, _, rfl, ?_, ?_, ?_⟩
        · rw [hC0] at f1; exact f1
        · rw [hC0] at f2; exact f2
        · intro j hj
          have : w.heap.size = j := by simpa [Value.ownBlock] using hj
          exact .inr (by omega)
end Go.Proofs.Ytmbmnldheilffaa
