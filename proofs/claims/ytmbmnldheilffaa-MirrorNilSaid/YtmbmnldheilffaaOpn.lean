/- What the data that came in reads as, with the bounds of its sizes. No program. -/
import Derived.Test.YtmbmnldheilffaaGen
import Derived.SliceStrings
import Derived.ProofKit
import Derived.SizedLaws
import Derived.OpenShut
namespace Go.Proofs.Ytmbmnldheilffaa.P
set_option linter.unusedVariables false
set_option linter.unusedSimpArgs false
open Go.RowKit
theorem add_add (a : Addr) (m j : Nat) : (a.add m).add j = a.add (m + j) := by
  unfold Addr.add
  by_cases hj : j = 0
  · simp [hj]
  · by_cases hm : m = 0
    · simp [hm, hj]
    · rw [if_neg hj, if_neg hm, if_neg (by omega)]; simp [Nat.add_assoc]
def Sz {H : Type} (P : Program) (t : TypeId) (d : DataW H) : Prop := ∀ m ∈ d.weights P t, m ≤ reachBytes
/-- whatever reads as a thing of this type has cells of this form -/
def Opens {H : Type} (enc : TypeId × Value → H) (P : Program) (W : World) (base : Nat) (sp : Nat → Bool) (held : Bool) (t : TypeId) (R : List Value → Prop) : Prop :=
  ∀ n cs x, DataW.trod enc P W base sp held n t cs = some x → Sz P t x.1 → R cs
section
variable {H : Type} {enc : TypeId × Value → H} {P : Program} {W : World} {base : Nat} {sp : Nat → Bool} {held : Bool} {t : TypeId}
theorem Opens.mono {R S : List Value → Prop} (h : Opens enc P W base sp held t R) (k : ∀ cs, R cs → S cs) : Opens enc P W base sp held t S := fun n cs x hx hs => k cs (h n cs x hx hs)
theorem opens_int {k : IntKind} (ht : P.underlying t = some (.int k)) : Opens enc P W base sp held t fun cs => ∃ n, cs = [.int k n] ∧ (Lit.int k n).wf = true := by
  intro n cs x hx _
  obtain ⟨m, h1, _, h3⟩ := DataW.trod_int ht hx
  exact ⟨m, h1, h3⟩
theorem opens_i64 (ht : P.underlying t = some (.int .i64)) : Opens enc P W base sp held t fun cs => ∃ n : Int, cs = [.int .i64 n] ∧ (-9223372036854775808 ≤ n ∧ n ≤ 9223372036854775807) :=
  (opens_int ht).mono fun _ ⟨n, h1, h2⟩ => ⟨n, h1, Go.bounds_i64 h2⟩
theorem opens_bool (ht : P.underlying t = some .bool) : Opens enc P W base sp held t fun cs => ∃ b, cs = [.bool b] := by
  intro n cs x hx _
  obtain ⟨b, h1, _⟩ := DataW.trod_bool ht hx
  exact ⟨b, h1⟩
theorem opens_string (ht : P.underlying t = some .string) : Opens enc P W base sp held t fun cs => ∃ s : ByteArray, cs = [.string s] ∧ s.size ≤ 140737488351232 := by
  intro n cs x hx hs
  obtain ⟨s, h1, rfl, _⟩ := DataW.trod_string ht hx
  refine ⟨s, h1, ?_⟩
  have := hs s.data.toList.length (by simp [DataW.weights])
  rw [Array.length_toList] at this
  exact this
theorem opens_struct {fs : Array Field} (ht : P.underlying t = some (.struct fs)) (R : Nat → List Value → Prop) (h : ∀ (j : Nat) (f : Field), fs[j]? = some f → Opens enc P W base sp held f.type (R j)) :
    Opens enc P W base sp held t fun cs => cs.length = P.cellsOf t ∧ ∀ (j : Nat) (f : Field), fs[j]? = some f → R j ((cs.drop f.offset).take (P.cellsOf f.type)) := by
  intro n cs x hx hs
  obtain ⟨xs, m, _, rfl, hl, hlen, hf⟩ := DataW.trod_struct ht hx
  refine ⟨hl, fun j f hj => ?_⟩
  have h1 := hf j f hj
  have hjl : j < xs.length := by
    rw [hlen]
    exact (Array.getElem?_eq_some_iff.1 hj).1
  rw [List.getElem?_eq_getElem hjl] at h1
  refine h j f hj m _ _ h1 fun k hk => hs k ?_
  simp only [DataW.weights, ht]
  exact DataW.weights_mem_each (j := j) (by simp [hj]) (by simp [List.getElem?_eq_getElem hjl]) k hk
theorem all_mem {e : TypeId} : ∀ {ds : List (DataW H)} {d : DataW H}, d ∈ ds → ∀ k ∈ d.weights P e, k ∈ DataW.weightsAll P e ds
  | x :: ds, d, hd, k, hk => by
      simp only [DataW.weightsAll, List.mem_append]
      rcases List.mem_cons.1 hd with rfl | hd
      · exact .inl hk
      · exact .inr (all_mem hd k hk)
theorem opens_slice {e : TypeId} (ht : P.underlying t = some (.slice e)) {T : Type} (f : T → List Value) (Q : T → Prop) (sz bytes : Nat) (hc : P.cellsOf e = sz) (hy : P.bytesOf e = bytes) (hlen : ∀ a, (f a).length = sz)
    (he : Opens enc P W base sp held e fun cs => ∃ a, cs = f a ∧ Q a) :
    Opens enc P W base sp held t fun cs => ∃ (l : List T) (A : Option Addr) (c : Nat), cs = [.slice A l.length c] ∧ l.length * bytes ≤ 140737488351232 ∧ (∀ a ∈ l, Q a) ∧ G.HasRow W sz (.slice A l.length c) l.length (l.flatMap f) := by
  intro fuel cs x hx hs
  have flen : ∀ l : List T, (l.flatMap f).length = l.length * sz := fun l => by
    induction l with
    | nil => simp
    | cons a l ih => rw [List.flatMap_cons, List.length_append, ih, hlen, List.length_cons, Nat.add_mul]; omega
  rcases DataW.trod_slice ht hx with ⟨rfl, _⟩ | ⟨a, len, cap, elems, rest, n, _, rfl, rfl, hb, hl, hm, hel, heach, _⟩
  · exact ⟨[], none, 0, rfl, by simp, by simp, G.HasRow.nil W sz⟩
  · have hw : ∀ y ∈ elems, Sz P e y.1 := fun y hy k hk => hs k (by
      simp only [DataW.weights, ht, List.mem_cons, List.mem_append]
      exact .inr (.inl (all_mem (List.mem_map_of_mem hy) k hk)))
    have hsz : len * bytes ≤ 140737488351232 := by
      have := hs ((elems.length + rest.length) * P.bytesOf e) (by simp [DataW.weights, ht])
      rw [hel, hy, Nat.add_mul] at this
      have h2 : reachBytes = 140737488351232 := rfl
      omega
    have each : ∀ i, i < len → ∃ x : T, Q x ∧ ∀ j, j < sz → W.cell? (a.add (i * sz + j)) = (f x)[j]? := fun i hi => by
      have h1 := heach i hi
      have hil : i < elems.length := by omega
      rw [List.getElem?_eq_getElem hil, Option.bind_eq_some_iff] at h1
      obtain ⟨cs, h2, h3⟩ := h1
      rw [hc] at h2
      obtain ⟨_, hl2, h4⟩ := World.cells?_some h2
      obtain ⟨x, rfl, hq⟩ := he n cs _ h3 (hw _ (List.getElem_mem hil))
      exact ⟨x, hq, fun j hj => by rw [← add_add]; exact h4 j hj⟩
    have all : ∀ m, m ≤ len → ∃ L : List T, L.length = m ∧ (∀ x ∈ L, Q x) ∧ ∀ i (hi : i < L.length) j, j < sz → W.cell? (a.add (i * sz + j)) = (f L[i])[j]? := fun m => by
      induction m with
      | zero => exact fun _ => ⟨[], rfl, by simp, fun i hi => by simp at hi⟩
      | succ m ih =>
        intro hm1
        obtain ⟨L, hL, hq, hi⟩ := ih (by omega)
        obtain ⟨x, hqx, hx⟩ := each m (by omega)
        refine ⟨L ++ [x], by simp [hL], fun y hy => ?_, fun i hi2 j hj => ?_⟩
        · rcases List.mem_append.1 hy with hy | hy
          · exact hq y hy
          · rw [List.mem_singleton.1 hy]; exact hqx
        rcases Nat.lt_or_ge i L.length with h1 | h1
        · rw [List.getElem_append_left h1]; exact hi i h1 j hj
        · have : i = m := by simp at hi2; omega
          subst this
          rw [List.getElem_append_right h1]
          simpa [hL] using hx j hj
    obtain ⟨L, rfl, hq, hL⟩ := all len (Nat.le_refl _)
    have fat : ∀ (L : List T) (j : Nat) (u : Value), (L.flatMap f)[j]? = some u → ∃ i, ∃ hi : i < L.length, ∃ k, k < sz ∧ j = i * sz + k ∧ (f L[i])[k]? = some u := fun L => by
      induction L with
      | nil => intro j u hj; simp at hj
      | cons x L ih =>
        intro j u hj
        rw [List.flatMap_cons] at hj
        rcases Nat.lt_or_ge j sz with h1 | h1
        · rw [List.getElem?_append_left (by rw [hlen]; exact h1)] at hj
          exact ⟨0, by simp, j, h1, by simp, hj⟩
        · rw [List.getElem?_append_right (by rw [hlen]; exact h1), hlen] at hj
          obtain ⟨i, hi, k, hk, e, hu⟩ := ih _ _ hj
          exact ⟨i + 1, by simp; omega, k, hk, by rw [Nat.add_mul]; omega, hu⟩
    refine ⟨L, some a, cap, rfl, hsz, hq, flen L, some a, cap, rfl, hl, hm, fun j u hj => ⟨a, rfl, ?_⟩⟩
    obtain ⟨i, hi, k, hk, rfl, hu⟩ := fat L j u hj
    rw [hL i hi k hk]; exact hu
/-- an argument of a struct: it is its cells -/
theorem agg_of {v : Value} {cs : Array Value} (h : v.cells.toList = cs.toList) (h2 : cs.size ≠ 1) : v = .agg cs := by
  have hz := congrArg List.length h
  cases v with
  | agg ds => exact congrArg Value.agg (Array.toList_inj.1 h)
  | _ => simp [Value.cells] at hz; omega
theorem sz_of {ts : List TypeId} {ds : List (DataW H)} (h : (DataW.weightsEach P ts ds).all (· ≤ reachBytes) = true) {j : Nat} {d : DataW H} (ht : ts[j]? = some t) (hd : ds[j]? = some d) : Sz P t d := fun m hm => by
  simpa using List.all_eq_true.1 h _ (DataW.weights_mem_each ht hd m hm)
end
end Go.Proofs.Ytmbmnldheilffaa.P
