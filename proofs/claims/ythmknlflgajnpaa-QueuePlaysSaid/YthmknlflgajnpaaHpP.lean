/- The plain law of the heap: items rise and sink, the first is not behind any; what is pushed and popped. No program. -/
import Derived.Test.YthmknlflgajnpaaHp6
namespace Go.Proofs.Ythmknlflgajnpaa
set_option linter.unusedVariables false
set_option linter.unusedSimpArgs false
theorem cb_self : ∀ a : List UInt8, Lib.compareBytes a a = 0
  | [] => rfl
  | a :: l => by
    unfold Lib.compareBytes
    rw [if_neg (by rw [UInt8.lt_iff_toNat_lt]; omega), if_neg (by rw [UInt8.lt_iff_toNat_lt]; omega)]
    exact cb_self l
theorem cb_flip : ∀ a b : List UInt8, Lib.compareBytes b a = - Lib.compareBytes a b
  | [], [] => rfl
  | [], _ :: _ => rfl
  | _ :: _, [] => rfl
  | a :: l, b :: m => by
    unfold Lib.compareBytes
    have h := cb_flip l m
    simp only [UInt8.lt_iff_toNat_lt]
    by_cases h1 : a.toNat < b.toNat
    · rw [if_pos h1, if_neg (by omega), if_pos h1]; rfl
    · by_cases h2 : b.toNat < a.toNat
      · rw [if_pos h2, if_neg h1, if_pos h2]
      · rw [if_neg h1, if_neg h2, if_neg h2, if_neg h1]; exact h
theorem cb_eq : ∀ a b : List UInt8, Lib.compareBytes a b = 0 → a = b
  | [], [], _ => rfl
  | [], _ :: _, h => by simp [Lib.compareBytes] at h
  | _ :: _, [], h => by simp [Lib.compareBytes] at h
  | a :: l, b :: m, h => by
    unfold Lib.compareBytes at h
    simp only [UInt8.lt_iff_toNat_lt] at h
    by_cases h1 : a.toNat < b.toNat
    · rw [if_pos h1] at h; simp at h
    · by_cases h2 : b.toNat < a.toNat
      · rw [if_neg h1, if_pos h2] at h; simp at h
      · rw [if_neg h1, if_neg h2] at h
        rw [cb_eq l m h, UInt8.toNat_inj.1 (show a.toNat = b.toNat by omega)]
theorem cb_trans : ∀ a b c : List UInt8, Lib.compareBytes a b < 0 → Lib.compareBytes b c < 0 → Lib.compareBytes a c < 0
  | [], [], _, h, _ => by simp [Lib.compareBytes] at h
  | _ :: _, [], _, h, _ => by simp [Lib.compareBytes] at h
  | _, _ :: _, [], _, h => by simp [Lib.compareBytes] at h
  | [], _ :: _, _ :: _, _, _ => by simp [Lib.compareBytes]
  | a :: l, b :: m, c :: k, h, g => by
    unfold Lib.compareBytes at h g ⊢
    simp only [UInt8.lt_iff_toNat_lt] at h g ⊢
    have ih := cb_trans l m k
    by_cases h1 : a.toNat < b.toNat
    · by_cases g1 : b.toNat < c.toNat
      · rw [if_pos (by omega)]; decide
      · by_cases g2 : c.toNat < b.toNat
        · rw [if_neg g1, if_pos g2] at g; simp at g
        · rw [if_pos (by omega)]; decide
    · by_cases h2 : b.toNat < a.toNat
      · rw [if_neg h1, if_pos h2] at h; simp at h
      · rw [if_neg h1, if_neg h2] at h
        by_cases g1 : b.toNat < c.toNat
        · rw [if_pos (by omega)]; decide
        · by_cases g2 : c.toNat < b.toNat
          · rw [if_neg g1, if_pos g2] at g; simp at g
          · rw [if_neg g1, if_neg g2] at g
            rw [if_neg (by omega), if_neg (by omega)]
            exact ih h g
def nm (a : Item) : List UInt8 := a.ref.name.data.toList
theorem less_iff (a b : Item) : lessB a b = true ↔ a.due < b.due ∨ (a.due = b.due ∧ (a.ref.kind < b.ref.kind ∨ (a.ref.kind = b.ref.kind ∧ Lib.compareBytes (nm a) (nm b) < 0))) := by
  unfold lessB cmpI or3 Lib.compareInt
  rw [decide_eq_true_iff]
  show _ ↔ _
  by_cases h1 : a.due < b.due
  · simp [h1]
  · by_cases h2 : a.due > b.due
    · simp [h1, h2]; omega
    · have e : a.due = b.due := by omega
      by_cases h3 : a.ref.kind < b.ref.kind
      · simp [h1, h2, h3, e]
      · by_cases h4 : a.ref.kind > b.ref.kind
        · simp [h1, h2, h3, h4, e]; omega
        · have e2 : a.ref.kind = b.ref.kind := by omega
          simp [e, e2, nm]
theorem less_irrefl (a : Item) : lessB a a = false := by
  cases h : lessB a a
  · rfl
  · rw [less_iff, cb_self] at h; omega
theorem less_trans {a b c : Item} (h : lessB a b = true) (g : lessB b c = true) : lessB a c = true := by
  rw [less_iff] at h g ⊢
  have := cb_trans (nm a) (nm b) (nm c)
  rcases h with h | ⟨h1, h | ⟨h2, h3⟩⟩ <;> rcases g with g | ⟨g1, g | ⟨g2, g3⟩⟩
  · exact .inl (by omega)
  · exact .inl (by omega)
  · exact .inl (by omega)
  · exact .inl (by omega)
  · exact .inr ⟨by omega, .inl (by omega)⟩
  · exact .inr ⟨by omega, .inl (by omega)⟩
  · exact .inl (by omega)
  · exact .inr ⟨by omega, .inl (by omega)⟩
  · exact .inr ⟨by omega, .inr ⟨by omega, this h3 g3⟩⟩
theorem name_inj {a b : Item} (h : nm a = nm b) : a.ref.name = b.ref.name := by
  unfold nm at h
  have h2 := Array.toList_inj.1 h
  cases ha : a.ref.name with | mk x => cases hb : b.ref.name with | mk y => rw [ha, hb] at h2; simp only at h2; rw [h2]
theorem item_ext {a b : Item} (h1 : a.due = b.due) (h2 : a.ref.kind = b.ref.kind) (h3 : a.ref.name = b.ref.name) : a = b := by
  obtain ⟨d, k, n⟩ := a
  obtain ⟨d', k', n'⟩ := b
  simp only at h1 h2 h3
  subst h1; subst h2; subst h3; rfl
theorem less_total (a b : Item) : lessB a b = true ∨ a = b ∨ lessB b a = true := by
  rw [less_iff, less_iff]
  by_cases h1 : a.due < b.due
  · exact .inl (.inl h1)
  by_cases h2 : b.due < a.due
  · exact .inr (.inr (.inl h2))
  by_cases h3 : a.ref.kind < b.ref.kind
  · exact .inl (.inr ⟨by omega, .inl h3⟩)
  by_cases h4 : b.ref.kind < a.ref.kind
  · exact .inr (.inr (.inr ⟨by omega, .inl h4⟩))
  have hf := cb_flip (nm a) (nm b)
  rcases (by omega : Lib.compareBytes (nm a) (nm b) < 0 ∨ Lib.compareBytes (nm a) (nm b) = 0 ∨ Lib.compareBytes (nm b) (nm a) < 0) with h | h | h
  · exact .inl (.inr ⟨by omega, .inr ⟨by omega, h⟩⟩)
  · refine .inr (.inl ?_)
    exact item_ext (by omega) (by omega) (name_inj (cb_eq _ _ h))
  · exact .inr (.inr (.inr ⟨by omega, .inr ⟨by omega, h⟩⟩))
theorem less_asymm {a b : Item} (h : lessB a b = true) : lessB b a = false := by
  cases g : lessB b a
  · rfl
  · have := less_trans h g; rw [less_irrefl] at this; cases this
/-- a is not behind b -/
def LE (a b : Item) : Prop := lessB b a = false
theorem LE.refl (a : Item) : LE a a := less_irrefl a
theorem LE.of_less {a b : Item} (h : lessB a b = true) : LE a b := less_asymm h
theorem LE.trans {a b c : Item} (h : LE a b) (g : LE b c) : LE a c := by
  unfold LE at *
  cases k : lessB c a
  · rfl
  · rcases less_total a b with h1 | h1 | h1
    · have := less_trans k h1; rw [g] at this; cases this
    · subst h1; rw [k] at g; cases g
    · rw [h] at h1; cases h1
theorem LE.antisymm {a b : Item} (h : LE a b) (g : LE b a) : a = b := by
  rcases less_total a b with h1 | h1 | h1
  · unfold LE at g; rw [g] at h1; cases h1
  · exact h1
  · unfold LE at h; rw [h] at h1; cases h1
def dI : Item := ⟨0, ⟨0, ⟨#[]⟩⟩⟩
def val (p : List Item) (k : Nat) : Item := p[k]?.getD dI
theorem val_get {p : List Item} {k : Nat} {x : Item} (h : p[k]? = some x) : val p k = x := by unfold val; rw [h]; rfl
theorem get_val {p : List Item} {k : Nat} (h : k < p.length) : p[k]? = some (val p k) := by unfold val; rw [List.getElem?_eq_getElem h]; rfl
theorem lessAt_val {p : List Item} {i j : Nat} (hi : i < p.length) (hj : j < p.length) : lessAt p i j = lessB (val p i) (val p j) := lessAt_eq (get_val hi) (get_val hj)
theorem swapL_val {p : List Item} {i j : Nat} (hi : i < p.length) (hj : j < p.length) (k : Nat) : val (swapL p i j) k = if k = j then val p i else if k = i then val p j else val p k := by
  rw [swapL_eq (get_val hi) (get_val hj)]
  unfold val
  rw [List.getElem?_set, List.getElem?_set, List.length_set]
  by_cases h1 : k = j
  · subst h1
    rw [if_pos rfl, if_pos hj, if_pos rfl]; rfl
  · by_cases h2 : k = i
    · subst h2
      rw [if_neg (fun h => h1 h.symm), if_pos rfl, if_pos hi, if_neg h1, if_pos rfl]; rfl
    · rw [if_neg (fun h => h1 h.symm), if_neg (fun h => h2 h.symm), if_neg h1, if_neg h2]
theorem swapL_perm (p : List Item) (i j : Nat) : (swapL p i j).Perm p := by
  by_cases hi : i < p.length
  · by_cases hj : j < p.length
    · rw [swapL_eq (List.getElem?_eq_getElem hi) (List.getElem?_eq_getElem hj)]
      exact List.set_set_perm hi hj
    · unfold swapL
      rw [List.getElem?_eq_none (by omega : p.length ≤ j)]
      cases p[i]? <;> exact List.Perm.refl _
  · unfold swapL
    rw [List.getElem?_eq_none (by omega : p.length ≤ i)]
/-- the first n are a heap -/
def Hp (p : List Item) (n : Nat) : Prop := ∀ c, 0 < c → c < n → LE (val p ((c - 1) / 2)) (val p c)
def UpI (p : List Item) (n j : Nat) : Prop := (∀ c, 0 < c → c < n → c ≠ j → LE (val p ((c - 1) / 2)) (val p c)) ∧ (0 < j → ∀ c, 0 < c → c < n → (c - 1) / 2 = j → LE (val p ((j - 1) / 2)) (val p c))
theorem up_heap (n : Nat) : ∀ (j : Nat) (p : List Item), n ≤ p.length → j < n → UpI p n j → Hp (upL p j) n := by
  intro j
  induction j using Nat.strongRecOn with
  | ind j ih =>
    intro p hn hj h
    by_cases h0 : j = 0
    · subst h0
      rw [upL_zero]
      exact fun c hc hcn => h.1 c hc hcn (by omega)
    cases hl : lessAt p j ((j - 1) / 2)
    · rw [upL_stop p j hl]
      rw [lessAt_val (by omega) (by omega)] at hl
      intro c hc hcn
      by_cases hcj : c = j
      · subst hcj; exact hl
      · exact h.1 c hc hcn hcj
    · rw [upL_go p j h0 hl]
      rw [lessAt_val (by omega) (by omega)] at hl
      have hij : (j - 1) / 2 < j := by omega
      have sv := fun k => swapL_val (p := p) (i := (j - 1) / 2) (j := j) (by omega) (by omega) k
      refine ih ((j - 1) / 2) hij _ (by rw [swapL_len]; exact hn) (by omega) ⟨fun c hc hcn hci => ?_, fun hi c hc hcn hpc => ?_⟩
      · rw [sv, sv]
        by_cases hcj : c = j
        · subst hcj
          rw [if_neg (by omega), if_pos rfl, if_pos rfl]
          exact LE.of_less hl
        · rw [if_neg hcj, if_neg hci]
          by_cases hp1 : (c - 1) / 2 = j
          · rw [if_pos hp1]; exact h.2 (by omega) c hc hcn hp1
          · rw [if_neg hp1]
            by_cases hp2 : (c - 1) / 2 = (j - 1) / 2
            · rw [if_pos hp2]
              have := h.1 c hc hcn hcj
              rw [hp2] at this
              exact (LE.of_less hl).trans this
            · rw [if_neg hp2]; exact h.1 c hc hcn hcj
      · have hpi := h.1 ((j - 1) / 2) hi (by omega) (by omega)
        rw [sv, sv, if_neg (by omega), if_neg (by omega)]
        by_cases hcj : c = j
        · rw [if_pos hcj]; exact hpi
        · rw [if_neg hcj, if_neg (by omega)]
          have := h.1 c hc hcn hcj
          rw [hpc] at this
          exact hpi.trans this
theorem upL_perm : ∀ (j : Nat) (p : List Item), (upL p j).Perm p := by
  intro j
  induction j using Nat.strongRecOn with
  | ind j ih =>
    intro p
    by_cases h0 : j = 0
    · rw [h0, upL_zero]
    cases hl : lessAt p j ((j - 1) / 2)
    · rw [upL_stop p j hl]
    · rw [upL_go p j h0 hl]
      exact (ih _ (by omega) _).trans (swapL_perm _ _ _)
def DnI (p : List Item) (n i : Nat) : Prop := (∀ c, 0 < c → c < n → (c - 1) / 2 ≠ i → LE (val p ((c - 1) / 2)) (val p c)) ∧ (0 < i → ∀ c, 0 < c → c < n → (c - 1) / 2 = i → LE (val p ((i - 1) / 2)) (val p c))
theorem kid_min {p : List Item} {n i : Nat} (hn : n ≤ p.length) (h : 2 * i + 1 < n) (c : Nat) (hc : 0 < c) (hcn : c < n) (hp : (c - 1) / 2 = i) : LE (val p (kidL p n i)) (val p c) := by
  rcases (by omega : c = 2 * i + 1 ∨ c = 2 * i + 2) with rfl | rfl
  · unfold kidL
    split
    · rename_i hk
      rw [lessAt_val (by omega) (by omega)] at hk
      exact LE.of_less hk.2
    · exact LE.refl _
  · unfold kidL
    split
    · exact LE.refl _
    · rename_i hk
      cases hl : lessAt p (2 * i + 2) (2 * i + 1)
      · rw [lessAt_val (by omega) (by omega)] at hl; exact hl
      · exact absurd ⟨hcn, hl⟩ hk
theorem kid_par (p : List Item) (n i : Nat) : (kidL p n i - 1) / 2 = i := by unfold kidL; split <;> omega
theorem down_heap (n : Nat) : ∀ (m i : Nat) (p : List Item), m = n - i → n ≤ p.length → DnI p n i → Hp (downL p n i) n ∧ ∀ k, n ≤ k → val (downL p n i) k = val p k := by
  intro m
  induction m using Nat.strongRecOn with
  | ind m ih =>
    intro i p hm hn h
    by_cases h0 : 2 * i + 1 < n
    rotate_left
    · rw [downL_end p n i h0]
      exact ⟨fun c hc hcn => h.1 c hc hcn (by omega), fun _ _ => rfl⟩
    have hk1 := kidL_gt p n i
    have hk2 := kidL_lt p n i h0
    have hk3 := kid_par p n i
    have hmin := fun c hc hcn hp => kid_min (p := p) hn h0 c hc hcn hp
    cases hl : lessAt p (kidL p n i) i
    · rw [downL_stop p n i hl]
      rw [lessAt_val (by omega) (by omega)] at hl
      refine ⟨fun c hc hcn => ?_, fun _ _ => rfl⟩
      by_cases hp : (c - 1) / 2 = i
      · rw [hp]; exact LE.trans hl (hmin c hc hcn hp)
      · exact h.1 c hc hcn hp
    · rw [downL_go p n i h0 hl]
      rw [lessAt_val (by omega) (by omega)] at hl
      obtain ⟨k, hk⟩ : ∃ k, k = kidL p n i := ⟨_, rfl⟩
      rw [← hk] at hk1 hk2 hk3 hmin hl ⊢
      have sv := fun z => swapL_val (p := p) (i := i) (j := k) (by omega) (by omega) z
      have key : DnI (swapL p i k) n k := by
        refine ⟨fun c hc hcn hpc => ?_, fun hi c hc hcn hpc => ?_⟩
        · rw [sv, sv, if_neg hpc]
          by_cases hck : c = k
          · rw [if_pos hck, hck, hk3, if_pos rfl]
            exact LE.of_less hl
          · rw [if_neg hck]
            by_cases hci : c = i
            · rw [if_pos hci, if_neg (by omega)]
              subst hci
              exact h.2 hc k (by omega) hk2 hk3
            · rw [if_neg hci]
              by_cases hp : (c - 1) / 2 = i
              · rw [if_pos hp]; exact hmin c hc hcn hp
              · rw [if_neg hp]; exact h.1 c hc hcn hp
        · rw [hk3, sv, sv, if_neg (by omega), if_pos rfl, if_neg (by omega), if_neg (by omega)]
          have := h.1 c hc hcn (by omega)
          rw [hpc] at this
          exact this
      obtain ⟨g1, g2⟩ := ih (n - k) (by omega) k (swapL p i k) rfl (by rw [swapL_len]; exact hn) key
      refine ⟨g1, fun z hz => ?_⟩
      rw [g2 z hz, sv, if_neg (by omega), if_neg (by omega)]
theorem downL_perm (n : Nat) : ∀ (m i : Nat) (p : List Item), m = n - i → (downL p n i).Perm p := by
  intro m
  induction m using Nat.strongRecOn with
  | ind m ih =>
    intro i p hm
    by_cases h0 : 2 * i + 1 < n
    rotate_left
    · rw [downL_end p n i h0]
    have hk1 := kidL_gt p n i
    cases hl : lessAt p (kidL p n i) i
    · rw [downL_stop p n i hl]
    · rw [downL_go p n i h0 hl]
      exact (ih (n - kidL p n i) (by omega) _ _ rfl).trans (swapL_perm _ _ _)
/-- the first one of a heap is not behind any -/
theorem heap_min {p : List Item} {n : Nat} (h : Hp p n) : ∀ k, k < n → LE (val p 0) (val p k) := by
  intro k
  induction k using Nat.strongRecOn with
  | ind k ih =>
    intro hk
    by_cases h0 : k = 0
    · rw [h0]; exact LE.refl _
    · exact (ih ((k - 1) / 2) (by omega) (by omega)).trans (h k (by omega) hk)
theorem push_heap {p : List Item} (h : Hp p p.length) (x : Item) : Hp (upL (p ++ [x]) p.length) (p.length + 1) ∧ (upL (p ++ [x]) p.length).Perm (x :: p) := by
  have hv : ∀ k, k < p.length → val (p ++ [x]) k = val p k := fun k hk => by unfold val; rw [List.getElem?_append_left hk]
  refine ⟨up_heap _ _ _ (by simp) (by omega) ⟨fun c hc hcn hcj => ?_, fun hj c hc hcn hpc => by omega⟩, (upL_perm _ _).trans List.perm_append_comm⟩
  rw [hv _ (by omega), hv _ (by omega)]
  exact h c hc (by omega)
theorem pop_heap {p q : List Item} {n : Nat} {x : Item} (hn : p.length = n + 1) (h : Hp p (n + 1)) (hq : downL (swapL p 0 n) n 0 = q ++ [x]) : x = val p 0 ∧ Hp q q.length ∧ (x :: q).Perm p := by
  have sv := fun z => swapL_val (p := p) (i := 0) (j := n) (by omega) (by omega) z
  obtain ⟨g1, g2⟩ := down_heap n n 0 (swapL p 0 n) (by omega) (by rw [swapL_len]; omega) ⟨fun c hc hcn hpc => by
    rw [sv, sv, if_neg (by omega), if_neg (by omega), if_neg (by omega), if_neg (by omega)]
    exact h c hc (by omega), fun h0 => by omega⟩
  have hl : q.length = n := by
    have := congrArg List.length hq
    rw [downL_len, swapL_len, hn, List.length_append] at this
    simpa using this.symm
  have hx := g2 n (Nat.le_refl n)
  rw [hq, sv, if_pos rfl] at hx
  have e1 : val (q ++ [x]) n = x := val_get (by rw [← hl]; simp)
  rw [e1] at hx
  refine ⟨hx, fun c hc hcn => ?_, ?_⟩
  · have hv : ∀ k, k < q.length → val (q ++ [x]) k = val q k := fun k hk => by unfold val; rw [List.getElem?_append_left hk]
    have := g1 c hc (by omega)
    rw [hq, hv _ (by omega), hv _ hcn] at this
    exact this
  · have h1 := (downL_perm n (n - 0) 0 (swapL p 0 n) rfl).trans (swapL_perm p 0 n)
    rw [hq] at h1
    exact List.perm_append_comm.symm.trans h1
end Go.Proofs.Ythmknlflgajnpaa
