/- What an argument of a slice reads as: a row of elements. No program. -/
import Derived.Test.YthmknlflgajnpaaGen
import Derived.SliceStrings
import Derived.ProofKit
namespace Go.Proofs.Ythmknlflgajnpaa.O
open Go.RowKit
theorem add_add (a : Addr) (m j : Nat) : (a.add m).add j = a.add (m + j) := by
  unfold Addr.add
  by_cases hj : j = 0
  · simp [hj]
  · by_cases hm : m = 0
    · simp [hm, hj]
    · rw [if_neg hj, if_neg hm, if_neg (by omega)]; simp [Nat.add_assoc]
/-- a slice that came in, each of its elements of a kind -/
theorem rows {T H : Type} {enc : TypeId × Value → H} {P : Program} {W : World} {base b0 : Nat} {sp : Nat → Bool} {held : Bool} {r : Reach} {t e : TypeId} {v : Value} {d : DataW H} {ps : List MemPlace} (f : T → List Value) (sz : Nat)
    (ht : P.underlying t = some (.slice e)) (hc : P.cellsOf e = sz) (hlen : ∀ a, (f a).length = sz)
    (hf : ∀ n cs x, cs.length = sz → DataW.trod enc P W base sp held n e cs = some x → ∃ a : T, cs = f a)
    (hv : Value.okWide P W r b0 t v) (h : DataW.Trod enc P W base sp held t v d ps) :
    ∃ (l : List T) (A : Option Addr) (c : Nat), v = .slice A l.length c ∧ G.HasRow W sz v l.length (l.flatMap f) := by
  obtain ⟨A, len, cap, rfl⟩ := Go.WideShapes.okWide_slice ht hv
  obtain ⟨fuel, hfu⟩ := h
  have flen : ∀ l : List T, (l.flatMap f).length = l.length * sz := fun l => by
    induction l with
    | nil => simp
    | cons a l ih => rw [List.flatMap_cons, List.length_append, ih, hlen, List.length_cons, Nat.add_mul]; omega
  rcases DataW.trod_slice ht hfu with ⟨hcs, _⟩ | ⟨a, l, c, elems, rest, n, _, hcs, _, hb, hl, hm, hel, heach, _⟩
  · simp [Value.cells] at hcs
    obtain ⟨rfl, rfl, rfl⟩ := hcs
    exact ⟨[], none, 0, rfl, G.HasRow.nil W sz⟩
  · simp [Value.cells] at hcs
    obtain ⟨rfl, rfl, rfl⟩ := hcs
    have each : ∀ i, i < len → ∃ x : T, ∀ j, j < sz → W.cell? (a.add (i * sz + j)) = (f x)[j]? := fun i hi => by
      have h1 := heach i hi
      rw [List.getElem?_eq_getElem (by omega), Option.bind_eq_some_iff] at h1
      obtain ⟨cs, h2, h3⟩ := h1
      rw [hc] at h2
      obtain ⟨_, hl2, h4⟩ := World.cells?_some h2
      obtain ⟨x, rfl⟩ := hf _ cs _ hl2 h3
      exact ⟨x, fun j hj => by rw [← add_add]; exact h4 j hj⟩
    have all : ∀ m, m ≤ len → ∃ L : List T, L.length = m ∧ ∀ i (hi : i < L.length) j, j < sz → W.cell? (a.add (i * sz + j)) = (f L[i])[j]? := fun m => by
      induction m with
      | zero => exact fun _ => ⟨[], rfl, fun i hi => by simp at hi⟩
      | succ m ih =>
        intro hm1
        obtain ⟨L, hL, hi⟩ := ih (by omega)
        obtain ⟨x, hx⟩ := each m (by omega)
        refine ⟨L ++ [x], by simp [hL], fun i hi2 j hj => ?_⟩
        rcases Nat.lt_or_ge i L.length with h1 | h1
        · rw [List.getElem_append_left h1]; exact hi i h1 j hj
        · have : i = m := by simp at hi2; omega
          subst this
          rw [List.getElem_append_right h1]
          simpa [hL] using hx j hj
    obtain ⟨L, rfl, hL⟩ := all len (Nat.le_refl _)
    have fat : ∀ (L : List T) (j : Nat) (u : Value), (L.flatMap f)[j]? = some u → ∃ i, ∃ hi : i < L.length, ∃ k, k < sz ∧ j = i * sz + k ∧ (f L[i])[k]? = some u := fun L => by
      induction L with
      | nil => intro j u hj; simp at hj
      | cons x L ih =>
        intro j u hj
        rw [List.flatMap_cons] at hj
        rcases Nat.lt_or_ge j sz with h1 | h1
        · rw [List.getElem?_append_left (by rw [hlen]; exact h1)] at hj
          exact ⟨0, by simp, j, h1, by simp, hj⟩
        · rw [List.getElem?_append_right (by rw [hlen]; exact h1), hlen] at hj
          obtain ⟨i, hi, k, hk, e, hu⟩ := ih _ _ hj
          exact ⟨i + 1, by simp; omega, k, hk, by rw [Nat.add_mul]; omega, hu⟩
    refine ⟨L, some a, cap, rfl, flen L, some a, cap, rfl, hl, hm, fun j u hj => ⟨a, rfl, ?_⟩⟩
    obtain ⟨i, hi, k, hk, rfl, hu⟩ := fat L j u hj
    rw [hL i hi k hk]; exact hu
end Go.Proofs.Ythmknlflgajnpaa.O
