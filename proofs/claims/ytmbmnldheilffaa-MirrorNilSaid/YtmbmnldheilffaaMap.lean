/- Maps of the model as lists of pairs, keys each once: what is looked up, stored and deleted, for any key type whose equality is known. No program. -/
import Derived.Test.YtmbmnldheilffaaGen
import Derived.Laws.StructEq
namespace Go.Proofs.Ytmbmnldheilffaa.M
open Go.RowKit

/-! ### lists of pairs -/
section
variable {K V : Type} [DecidableEq K]
def get : List (K × V) → K → Option V
  | [], _ => none
  | p :: l, a => if a = p.1 then some p.2 else get l a
def put : List (K × V) → K → V → List (K × V)
  | [], a, v => [(a, v)]
  | p :: l, a, v => if a = p.1 then (p.1, v) :: l else p :: put l a v
def del : List (K × V) → K → List (K × V)
  | [], _ => []
  | p :: l, a => if a = p.1 then l else p :: del l a
def Nodup (l : List (K × V)) : Prop := l.Pairwise fun p q => p.1 ≠ q.1
theorem get_none {l : List (K × V)} {a : K} : get l a = none ↔ ∀ p ∈ l, a ≠ p.1 := by
  induction l with
  | nil => simp [get]
  | cons p l ih =>
    by_cases h : a = p.1
    · simp [get, h]
    · simp [get, h, ih]
theorem get_put (l : List (K × V)) (a b : K) (v : V) : get (put l a v) b = if b = a then some v else get l b := by
  induction l with
  | nil => simp [put, get]
  | cons p l ih =>
    unfold put
    by_cases h : a = p.1
    · rw [if_pos h]
      by_cases hb : b = a
      · simp [get, hb, h]
      · have : b ≠ p.1 := fun e => hb (e.trans h.symm)
        simp [get, hb, this]
    · rw [if_neg h]
      simp only [get, ih]
      by_cases hb : b = p.1
      · have : b ≠ a := fun e => h (e.symm.trans hb)
        rw [if_pos hb, if_neg this, if_pos hb]
      · rw [if_neg hb, if_neg hb]
theorem mem_del {l : List (K × V)} {a : K} {p : K × V} (h : p ∈ del l a) : p ∈ l := by
  induction l with
  | nil => simp [del] at h
  | cons q l ih =>
    unfold del at h
    split at h
    · exact List.mem_cons_of_mem _ h
    · rcases List.mem_cons.1 h with rfl | h
      · exact List.mem_cons_self
      · exact List.mem_cons_of_mem _ (ih h)
theorem get_del {l : List (K × V)} (hn : Nodup l) (a b : K) : get (del l a) b = if b = a then none else get l b := by
  induction l with
  | nil => simp [del, get]
  | cons p l ih =>
    obtain ⟨h1, h2⟩ := List.pairwise_cons.1 hn
    unfold del
    by_cases h : a = p.1
    · rw [if_pos h]
      by_cases hb : b = a
      · rw [if_pos hb, get_none]
        intro q hq e
        exact h1 q hq (by rw [← h, ← hb, e])
      · have : b ≠ p.1 := fun e => hb (e.trans h.symm)
        simp [get, hb, this]
    · rw [if_neg h]
      simp only [get, ih h2]
      by_cases hb : b = p.1
      · have : b ≠ a := fun e => h (e.symm.trans hb)
        rw [if_pos hb, if_neg this, if_pos hb]
      · rw [if_neg hb, if_neg hb]
theorem nodup_del {l : List (K × V)} (h : Nodup l) (a : K) : Nodup (del l a) := by
  induction l with
  | nil => exact h
  | cons p l ih =>
    obtain ⟨h1, h2⟩ := List.pairwise_cons.1 h
    unfold del
    split
    · exact h2
    · exact List.pairwise_cons.2 ⟨fun q hq => h1 q (mem_del hq), ih h2⟩
theorem mem_put {l : List (K × V)} {a : K} {v : V} {p : K × V} (h : p ∈ put l a v) : p.1 = a ∨ p ∈ l := by
  induction l with
  | nil => simp [put] at h; subst h; exact .inl rfl
  | cons q l ih =>
    unfold put at h
    split at h
    · rename_i ha
      rcases List.mem_cons.1 h with rfl | h
      · exact .inl ha.symm
      · exact .inr (List.mem_cons_of_mem _ h)
    · rcases List.mem_cons.1 h with rfl | h
      · exact .inr List.mem_cons_self
      · rcases ih h with h | h
        · exact .inl h
        · exact .inr (List.mem_cons_of_mem _ h)
theorem nodup_put {l : List (K × V)} (h : Nodup l) (a : K) (v : V) : Nodup (put l a v) := by
  induction l with
  | nil => simp [put, Nodup]
  | cons p l ih =>
    obtain ⟨h1, h2⟩ := List.pairwise_cons.1 h
    unfold put
    split
    · exact List.pairwise_cons.2 ⟨h1, h2⟩
    · rename_i ha
      refine List.pairwise_cons.2 ⟨fun q hq => ?_, ih h2⟩
      rcases mem_put hq with e | hq
      · rw [e]; exact fun e => ha e.symm
      · exact h1 q hq
theorem length_put (l : List (K × V)) (a : K) (v : V) : (put l a v).length = if (get l a).isSome then l.length else l.length + 1 := by
  induction l with
  | nil => simp [put, get]
  | cons p l ih =>
    unfold put get
    by_cases h : a = p.1
    · simp [h]
    · rw [if_neg h, if_neg h, List.length_cons, ih, List.length_cons]; split <;> rfl
theorem length_del (l : List (K × V)) (a : K) : (del l a).length = if (get l a).isSome then l.length - 1 else l.length := by
  induction l with
  | nil => simp [del, get]
  | cons p l ih =>
    unfold del get
    by_cases h : a = p.1
    · simp [h]
    · rw [if_neg h, if_neg h, List.length_cons, ih, List.length_cons]
      by_cases hs : (get l a).isSome
      · rw [if_pos hs, if_pos hs]
        have : l ≠ [] := by intro e; subst e; simp [get] at hs
        have := List.length_pos_iff.2 this
        omega
      · rw [if_neg hs, if_neg hs]
/-- where a key stands first -/
def fnd (a : K) : List (K × V) → Nat → Option (Nat × V)
  | [], _ => none
  | p :: l, i => if a = p.1 then some (i, p.2) else fnd a l (i + 1)
theorem fnd_get (a : K) : ∀ (l : List (K × V)) (i : Nat), (fnd a l i).map (·.2) = get l a
  | [], _ => rfl
  | p :: l, i => by unfold fnd get; split; rfl; exact fnd_get a l (i + 1)
theorem fnd_put (a : K) (v : V) : ∀ (l : List (K × V)) (i : Nat), (∀ j u, fnd a l i = some (j, u) → i ≤ j ∧ j < i + l.length ∧ put l a v = l.modify (j - i) (fun p => (p.1, v)) ∧ del l a = l.eraseIdx (j - i) ∧ ∀ p, l[j - i]? = some p → p.1 = a) ∧
    (fnd a l i = none → put l a v = l ++ [(a, v)] ∧ del l a = l)
  | [], i => ⟨fun j u h => by simp [fnd] at h, fun _ => ⟨rfl, rfl⟩⟩
  | p :: l, i => by
    unfold fnd put del
    by_cases h : a = p.1
    · rw [if_pos h, if_pos h, if_pos h]
      refine ⟨fun j u hj => ?_, fun hj => by simp at hj⟩
      simp only [Option.some.injEq, Prod.mk.injEq] at hj
      obtain ⟨rfl, rfl⟩ := hj
      refine ⟨Nat.le_refl _, by simp, by simp, by simp, fun q hq => ?_⟩
      simp at hq; rw [← hq]; exact h.symm
    · rw [if_neg h, if_neg h, if_neg h]
      obtain ⟨h1, h2⟩ := fnd_put a v l (i + 1)
      refine ⟨fun j u hj => ?_, fun hj => ?_⟩
      · obtain ⟨g1, g2, g3, g4, g5⟩ := h1 j u hj
        have e : j - i = (j - (i + 1)) + 1 := by omega
        refine ⟨by omega, by simp; omega, ?_, ?_, ?_⟩
        · rw [e, g3]; rfl
        · rw [e, g4]; rfl
        · rw [e]; simpa using g5
      · obtain ⟨g1, g2⟩ := h2 hj
        exact ⟨by rw [g1]; rfl, by rw [g2]⟩
end

/-! ### maps in memory -/
section
variable {K : Type}
def pairs (es : List MapEntry) : List (Value × Value) := es.map fun e => (e.key, e.val)
def img (kv : K → Value) (l : List (K × Value)) : List (Value × Value) := l.map fun p => (kv p.1, p.2)
theorem map_erase {A B : Type} (f : A → B) : ∀ (l : List A) (j : Nat), (l.eraseIdx j).map f = (l.map f).eraseIdx j
  | [], _ => rfl
  | _ :: _, 0 => rfl
  | a :: l, j + 1 => by simp only [List.eraseIdx_cons_succ, List.map_cons, map_erase f l j]
theorem pairs_append (a b : List MapEntry) : pairs (a ++ b) = pairs a ++ pairs b := by simp [pairs]
theorem img_append {kv : K → Value} (a b : List (K × Value)) : img kv (a ++ b) = img kv a ++ img kv b := by simp [img]
/-- each entry has a stamp of its own, an elder one than the clock's -/
def Births (es : List MapEntry) (c : Nat) : Prop := (∀ b ∈ es.map (·.born), b < c) ∧ (es.map (·.born)).Nodup
theorem Births.push {es : List MapEntry} {c : Nat} (h : Births es c) (e : MapEntry) (he : e.born = c) : Births (es ++ [e]) (c + 1) := by
  obtain ⟨h1, h2⟩ := h
  unfold Births
  simp only [List.map_append, List.map_cons, List.map_nil, he]
  refine ⟨fun b hb => ?_, List.nodup_append.2 ⟨h2, by simp, fun x hx y hy => ?_⟩⟩
  · rcases List.mem_append.1 hb with hb | hb
    · have := h1 b hb; omega
    · have : b = c := by simpa using hb
      omega
  · have : y = c := by simpa using hy
    have := h1 x hx
    omega
theorem Births.same {es es' : List MapEntry} {c : Nat} (h : Births es c) (he : es'.map (·.born) = es.map (·.born)) : Births es' c := by unfold Births at *; rw [he]; exact h
theorem Births.modify {es : List MapEntry} {c : Nat} (h : Births es c) (j : Nat) (f : MapEntry → MapEntry) (hf : ∀ e, (f e).born = e.born) : Births (es.modify j f) c := by
  refine h.same (List.ext_getElem? fun i => ?_)
  simp only [List.getElem?_map, List.getElem?_modify]
  cases es[i]? with
  | none => rfl
  | some e =>
    split
    · show some (f e).born = some e.born
      rw [hf]
    · rfl
theorem Births.erase {es : List MapEntry} {c : Nat} (h : Births es c) (j : Nat) : Births (es.eraseIdx j) c := by
  obtain ⟨h1, h2⟩ := h
  unfold Births
  rw [map_erase]
  exact ⟨fun b hb => h1 b (List.mem_of_mem_eraseIdx hb), h2.sublist (List.eraseIdx_sublist _ _)⟩
theorem Births.find {es : Array MapEntry} {c : Nat} (h : Births es.toList c) (j : Nat) (hj : j < es.size) {b : Int} (hb : ((es[j]).born : Int) = b) : es.findIdx? (fun e => (e.born : Int) == b) = some j := by
  rw [Array.findIdx?_eq_some_iff_getElem]
  refine ⟨hj, by simp [hb], fun i hi => ?_⟩
  have hn := h.2
  rw [List.Nodup, List.pairwise_iff_getElem] at hn
  have h1 := hn i j (by simp; omega) (by simpa using hj) hi
  simp only [List.getElem_map, Array.getElem_toList] at h1
  simp only [← hb, beq_iff_eq]
  intro e
  exact h1 (by omega)
/-- block r is the map l -/
def MapIs (kv : K → Value) (w : World) (r : Nat) (l : List (K × Value)) : Prop := ∃ es clock, w.heap[r]? = some (.map es clock) ∧ pairs es.toList = img kv l ∧ Births es.toList clock
theorem MapIs.lt {kv : K → Value} {w : World} {r : Nat} {l : List (K × Value)} (h : MapIs kv w r l) : r < w.heap.size := by
  obtain ⟨es, c, hh, _⟩ := h
  exact (Array.getElem?_eq_some_iff.1 hh).1
theorem MapIs.of_block {kv : K → Value} {w w1 : World} {r : Nat} {l : List (K × Value)} (h : MapIs kv w r l) (hb : w1.heap[r]? = w.heap[r]?) : MapIs kv w1 r l := by
  obtain ⟨es, c, hh, hp⟩ := h
  exact ⟨es, c, hb.trans hh, hp⟩
theorem MapIs.new (kv : K → Value) (w : World) : MapIs kv (w.alloc (.map #[] 0)) w.heap.size [] := ⟨#[], 0, G.heap_new _ _, rfl, by simp [Births]⟩
end
section
variable {P : Program} {K : Type} [DecidableEq K]
/-- what a key type must answer -/
structure KeyLaw (P : Program) (kt : TypeId) (kv : K → Value) : Prop where
  check : ∀ (b : Bool) (a : K) (w : World), (Instr.checkKey b 10000 kt (kv a)).run P w = .ok () w
  eq : ∀ (a b : K) (w : World), (Op.equal kt (kv a) (kv b)).run P w = .ok (decide (a = b)) w
  now : ∀ (td : TypeDesc) (a b : K), P.underlying kt = some td → Instr.sameNow td (kv a) (kv b) = none ∨ Instr.sameNow td (kv a) (kv b) = some (decide (a = b))
  bits : ∀ a : K, Instr.sameBits 10000 (kv a) (kv a) = true
  ty : ∃ td, P.underlying kt = some td
theorem findNow_run {kt : TypeId} {kv : K → Value} (L : KeyLaw P kt kv) {td : TypeDesc} (ht : P.underlying kt = some td) (a : K) : ∀ (l : List (K × Value)) (es : List MapEntry) (i : Nat), pairs es = img kv l →
    Instr.findNow td (kv a) es i = none ∨ Instr.findNow td (kv a) es i = some (fnd a l i)
  | [], [], i, _ => .inr rfl
  | p :: l, e :: es, i, h => by
    simp only [pairs, img, List.map_cons, List.cons.injEq, Prod.mk.injEq] at h
    obtain ⟨⟨h1, h2⟩, h3⟩ := h
    unfold Instr.findNow fnd
    rw [h1, h2]
    rcases L.now td a p.1 ht with hn | hn
    · rw [hn]; exact .inl rfl
    · rw [hn]
      by_cases ha : a = p.1
      · rw [if_pos ha, decide_eq_true ha]; exact .inr rfl
      · rw [if_neg ha, decide_eq_false ha]; exact findNow_run L ht a l es (i + 1) h3
  | [], e :: es, i, h => by simp [pairs, img] at h
  | p :: l, [], i, h => by simp [pairs, img] at h
theorem findAsking_run {kt : TypeId} {kv : K → Value} (L : KeyLaw P kt kv) (a : K) (w : World) : ∀ (l : List (K × Value)) (es : List MapEntry) (i : Nat), pairs es = img kv l →
    (Instr.findAsking kt (kv a) es i).run P w = .ok (fnd a l i) w
  | [], [], i, _ => rfl
  | p :: l, e :: es, i, h => by
    simp only [pairs, img, List.map_cons, List.cons.injEq, Prod.mk.injEq] at h
    obtain ⟨⟨h1, h2⟩, h3⟩ := h
    unfold Instr.findAsking fnd
    rw [Sem.run_bind, h1, L.eq a p.1 w, Result.andThen_ok]
    by_cases ha : a = p.1
    · rw [if_pos ha, decide_eq_true ha, if_pos rfl, h2]; rfl
    · rw [if_neg ha, decide_eq_false ha, if_neg (by decide)]; exact findAsking_run L a w l es (i + 1) h3
  | [], e :: es, i, h => by simp [pairs, img] at h
  | p :: l, [], i, h => by simp [pairs, img] at h
theorem findKey_run {kt : TypeId} {kv : K → Value} (L : KeyLaw P kt kv) (a : K) (w : World) (l : List (K × Value)) (es : List MapEntry) (h : pairs es = img kv l) :
    (Instr.findKey kt (kv a) es).run P w = .ok (fnd a l 0) w := by
  obtain ⟨td, ht⟩ := L.ty
  unfold Instr.findKey
  rw [Sem.run_bind, run_underlying ht, Result.andThen_ok]
  rcases findNow_run L ht a l es 0 h with hn | hn
  · rw [hn]; exact findAsking_run L a w l es 0 h
  · rw [hn]; rfl
theorem run_getObj_map (w : World) (r : Nat) (es : Array MapEntry) (c : Nat) (h : w.heap[r]? = some (.map es c)) : (getObj r).run P w = .ok (.map es c) w := by
  show Sem.run P (Sem.getObj r .pure) w = _
  simp [Sem.run, h]
theorem lookup_run {kt et t : TypeId} {kv : K → Value} (L : KeyLaw P kt kv) (ht : P.underlying t = some (.map kt et)) {z : Value} (hz : ∀ w, (zeroValue et).run P w = .ok z w) (c : Bool) (a : K) {w : World} {r : Nat} {l : List (K × Value)} (h : MapIs kv w r l) :
    (Instr.lookup t (.map (some r)) (kv a) c).run P w = .ok (if c then .tuple #[(get l a).getD z, .bool (get l a).isSome] else (get l a).getD z) w := by
  obtain ⟨es, ck, hh, hp, hbo⟩ := h
  unfold Instr.lookup
  simp only [Sem.run_bind, run_underlying ht, Result.andThen_ok, run_getObj_map w r es ck hh, Sem.run_pure, L.check, findKey_run L a w l _ hp]
  have hg := fnd_get a l 0
  cases hf : fnd a l 0 with
  | none =>
    rw [hf] at hg
    have hg' : get l a = none := hg.symm
    simp [hz, hg']
  | some x =>
    rw [hf] at hg
    have hg' : get l a = some x.2 := hg.symm
    simp [hg']
/-- the world, block r another object -/
def upd (w : World) (r : Nat) (o : Obj) : World := { w with heap := w.heap.setIfInBounds r o }
theorem upd_size (w : World) (r : Nat) (o : Obj) : (upd w r o).heap.size = w.heap.size := by simp [upd]
theorem upd_at (w : World) (r : Nat) (o : Obj) (h : r < w.heap.size) : (upd w r o).heap[r]? = some o := by simp [upd, h]
theorem upd_other (w : World) (r : Nat) (o : Obj) (j : Nat) (h : j ≠ r) : (upd w r o).heap[j]? = w.heap[j]? := by simp [upd, Ne.symm h]
theorem run_setObj_map (w : World) (r : Nat) (es : Array MapEntry) (c : Nat) (o : Obj) (h : w.heap[r]? = some (.map es c)) : (setObj r o).run P w = .ok () (upd w r o) := by
  show Sem.run P (Sem.setObj r o (.pure ())) w = _
  simp [Sem.run, h, upd]
theorem update_run {kt et t : TypeId} {kv : K → Value} (L : KeyLaw P kt kv) (ht : P.underlying t = some (.map kt et)) (a : K) (v : Value) {w : World} {r : Nat} {l : List (K × Value)} (h : MapIs kv w r l) :
    ∃ o, ∀ W : World, W.heap[r]? = w.heap[r]? → (Instr.mapUpdate t (.map (some r)) (kv a) v).run P W = .ok () (upd W r o) ∧ MapIs kv (upd W r o) r (put l a v) := by
  obtain ⟨es, ck, hh, hp, hbo⟩ := h
  obtain ⟨f1, f2⟩ := fnd_put a v l 0
  cases hf : fnd a l 0 with
  | none =>
    obtain ⟨g1, _⟩ := f2 hf
    refine ⟨.map (es.push { key := kv a, val := v, born := ck }) (ck + 1), fun W hW => ?_⟩
    have hWh := hW.trans hh
    refine ⟨?_, ?_⟩
    · unfold Instr.mapUpdate
      simp only [Sem.run_bind, run_underlying ht, Result.andThen_ok, run_getObj_map W r es ck hWh, L.check, findKey_run L a W l _ hp, hf, run_setObj_map W r es ck _ hWh]
    · refine ⟨_, _, upd_at _ _ _ (Array.getElem?_eq_some_iff.1 hWh).1, ?_, by rw [Array.toList_push]; exact hbo.push _ rfl⟩
      rw [g1, img_append, Array.toList_push, pairs_append, hp]; rfl
  | some x =>
    obtain ⟨j, u⟩ := x
    obtain ⟨_, g2, g3, _, g5⟩ := f1 j u hf
    rw [Nat.sub_zero] at g3 g5
    have hlen : es.size = l.length := by
      have := congrArg List.length hp
      simpa [pairs, img] using this
    have hj : j < es.size := by omega
    have hkey : (es[j]'hj).key = kv a := by
      have h1 : (pairs es.toList)[j]? = (img kv l)[j]? := by rw [hp]
      simp only [pairs, img, List.getElem?_map] at h1
      rw [Array.getElem?_toList, Array.getElem?_eq_getElem hj, List.getElem?_eq_getElem (show j < l.length by omega)] at h1
      simp only [Option.map_some, Option.some.injEq, Prod.mk.injEq] at h1
      rw [h1.1, g5 _ (List.getElem?_eq_getElem (show j < l.length by omega))]
    refine ⟨.map (es.modify j fun e => { e with key := kv a, val := v }) ck, fun W hW => ?_⟩
    have hWh := hW.trans hh
    refine ⟨?_, ?_⟩
    · unfold Instr.mapUpdate
      simp only [Sem.run_bind, run_underlying ht, Result.andThen_ok, run_getObj_map W r es ck hWh, L.check, findKey_run L a W l _ hp, hf]
      rw [Array.getElem?_eq_getElem hj]
      simp only [Option.map_some, Option.getD_some, hkey, Instr.keyThatStays, L.bits, if_true, Sem.run_pure, Result.andThen_ok, run_setObj_map W r es ck _ hWh]
    · refine ⟨_, _, upd_at _ _ _ (Array.getElem?_eq_some_iff.1 hWh).1, ?_, by rw [Array.toList_modify]; exact hbo.modify _ _ fun _ => rfl⟩
      rw [g3]
      apply List.ext_getElem?
      intro i
      have h1 : (pairs es.toList)[i]? = (img kv l)[i]? := by rw [hp]
      simp only [pairs, img, List.getElem?_map, Array.toList_modify, List.getElem?_modify] at h1 ⊢
      by_cases hi : j = i
      · subst hi
        rw [Array.getElem?_toList, Array.getElem?_eq_getElem hj, List.getElem?_eq_getElem (show j < l.length by omega)]
        have h5 := g5 _ (List.getElem?_eq_getElem (show j < l.length by omega))
        simp [h5]
      · simpa [hi] using h1
theorem fnd_val (a : K) : ∀ (l : List (K × Value)) (i j : Nat) (u : Value), fnd a l i = some (j, u) → (l[j - i]?).map (·.2) = some u
  | [], i, j, u, h => by simp [fnd] at h
  | p :: l, i, j, u, h => by
    unfold fnd at h
    by_cases hp : a = p.1
    · rw [if_pos hp] at h
      simp only [Option.some.injEq, Prod.mk.injEq] at h
      obtain ⟨rfl, rfl⟩ := h
      simp
    · rw [if_neg hp] at h
      have h2 := fnd_val a l (i + 1) j u h
      have h3 := ((fnd_put a u l (i + 1)).1 j u h).1
      rw [show j - i = (j - (i + 1)) + 1 by omega]
      simpa using h2
end
theorem pairs_modify {K : Type} {kv : K → Value} : ∀ (es : List MapEntry) (l : List (K × Value)), pairs es = img kv l → ∀ (j : Nat) (f : MapEntry → MapEntry) (g : K × Value → K × Value),
    (∀ e p, es[j]? = some e → l[j]? = some p → ((f e).key, (f e).val) = (kv (g p).1, (g p).2)) → pairs (es.modify j f) = img kv (l.modify j g)
  | [], [], _, j, f, g, _ => by simp [pairs, img]
  | e :: es, p :: l, h, 0, f, g, hj => by
    simp only [pairs, img, List.map_cons, List.cons.injEq] at h
    have := hj e p rfl rfl
    simp only [List.modify_zero_cons, pairs, img, List.map_cons, List.cons.injEq]
    exact ⟨this, h.2⟩
  | e :: es, p :: l, h, j + 1, f, g, hj => by
    simp only [pairs, img, List.map_cons, List.cons.injEq] at h
    simp only [List.modify_succ_cons, pairs, img, List.map_cons, List.cons.injEq]
    exact ⟨h.1, pairs_modify es l h.2 j f g (fun e p he hp => hj e p (by simpa using he) (by simpa using hp))⟩
  | [], p :: l, h, _, _, _, _ => by simp [pairs, img] at h
  | e :: es, [], h, _, _, _, _ => by simp [pairs, img] at h
section
variable {P : Program} {K : Type} [DecidableEq K]
theorem modify_last {A : Type} (f : A → A) (a : A) : ∀ l : List A, (l ++ [a]).modify l.length f = l ++ [f a]
  | [] => rfl
  | x :: l => by simp only [List.cons_append, List.length_cons, List.modify_succ_cons, modify_last f a l]
/-- an entry is taken, then written: 'm[a]++' -/
theorem entry_run {kt et t : TypeId} {kv : K → Value} (L : KeyLaw P kt kv) (ht : P.underlying t = some (.map kt et)) {z : Value} (hz : ∀ w, (zeroValue et).run P w = .ok z w) (a : K) (v : Value) {w : World} {r : Nat} {l : List (K × Value)} (h : MapIs kv w r l) :
    ∃ o o2 st, (∀ W : World, W.heap[r]? = w.heap[r]? → (Instr.mapEntry t (.map (some r)) (kv a)).run P W = .ok (.tuple #[(get l a).getD z, goInt st]) (upd W r o) ∧ MapIs kv (upd W r o) r (put l a ((get l a).getD z))) ∧
      ∀ W : World, W.heap[r]? = some o → (Instr.entryStore t (.map (some r)) (goInt st) v).run P W = .ok () (upd W r o2) ∧ MapIs kv (upd W r o2) r (put l a v) := by
  obtain ⟨es, ck, hh, hp, hbo⟩ := h
  have hg := fnd_get a l 0
  cases hf : fnd a l 0 with
  | none =>
    obtain ⟨g1, _⟩ := (fnd_put a v l 0).2 hf
    obtain ⟨g2, _⟩ := (fnd_put a z l 0).2 hf
    rw [hf] at hg
    have hg' : get l a = none := hg.symm
    have hb1 := hbo.push { key := kv a, val := z, born := ck } rfl
    have hfi := Births.find (es := es.push { key := kv a, val := z, born := ck }) (by rw [Array.toList_push]; exact hb1) es.size (by simp) (b := (ck : Int)) (by simp)
    refine ⟨.map (es.push { key := kv a, val := z, born := ck }) (ck + 1), .map ((es.push { key := kv a, val := z, born := ck }).modify es.size fun e => { e with val := v }) (ck + 1), ck, fun W hW => ?_, fun W hW => ?_⟩
    · have hWh := hW.trans hh
      rw [hg']
      refine ⟨?_, _, _, upd_at _ _ _ (Array.getElem?_eq_some_iff.1 hWh).1, ?_, by rw [Array.toList_push]; exact hb1⟩
      · unfold Instr.mapEntry
        simp only [Sem.run_bind, run_underlying ht, Result.andThen_ok, run_getObj_map W r es ck hWh, L.check, findKey_run L a W l _ hp, hf, hz, run_setObj_map W r es ck _ hWh, Sem.run_pure]
        rfl
      · show _ = img kv (put l a z)
        rw [g2, img_append, Array.toList_push, pairs_append, hp]; rfl
    · refine ⟨?_, _, _, upd_at _ _ _ (Array.getElem?_eq_some_iff.1 hW).1, ?_, by rw [Array.toList_modify, Array.toList_push]; exact hb1.modify _ _ fun _ => rfl⟩
      · unfold Instr.entryStore
        simp only [Sem.run_bind, Result.andThen_ok, run_getObj_map W r _ _ hW, goInt, asInt, asIntOf, Sem.run_pure, hfi, run_setObj_map W r _ _ _ hW]
      · rw [g1, img_append, Array.toList_modify, Array.toList_push]
        have : es.size = es.toList.length := by simp
        rw [this, modify_last, pairs_append, hp]
        rfl
  | some x =>
    obtain ⟨j, u⟩ := x
    rw [hf] at hg
    have hg' : get l a = some u := hg.symm
    obtain ⟨_, g2, g3, _, g5⟩ := (fnd_put a v l 0).1 j u hf
    obtain ⟨_, _, k3, _, _⟩ := (fnd_put a u l 0).1 j u hf
    rw [Nat.sub_zero] at g3 g5 k3
    have hlen : es.size = l.length := by
      have := congrArg List.length hp
      simpa [pairs, img] using this
    have hj : j < es.size := by omega
    have hu := fnd_val a l 0 j u hf
    rw [Nat.sub_zero] at hu
    have hjl : j < l.length := by omega
    have h5 : (l[j]'hjl).1 = a := g5 _ (List.getElem?_eq_getElem hjl)
    have hu' : (l[j]'hjl).2 = u := by rw [List.getElem?_eq_getElem hjl] at hu; simpa using hu
    have hkey : (es[j]'hj).key = kv a ∧ (es[j]'hj).val = u := by
      have h1 : (pairs es.toList)[j]? = (img kv l)[j]? := by rw [hp]
      simp only [pairs, img, List.getElem?_map] at h1
      rw [Array.getElem?_toList, Array.getElem?_eq_getElem hj, List.getElem?_eq_getElem hjl] at h1
      simp only [Option.map_some, Option.some.injEq, Prod.mk.injEq] at h1
      exact ⟨by rw [h1.1, h5], by rw [h1.2, hu']⟩
    have hb1 : Births (es.modify j fun e => { e with key := kv a }).toList ck := by rw [Array.toList_modify]; exact hbo.modify _ _ fun _ => rfl
    have hj2 : j < (es.modify j fun e => { e with key := kv a }).size := by simpa using hj
    have hfi := Births.find (es := es.modify j fun e => { e with key := kv a }) hb1 j hj2 (b := ((es[j]'hj).born : Int)) (by simp [Array.getElem_modify])
    have hp1 : pairs (es.modify j fun e => { e with key := kv a }).toList = img kv (put l a u) := by
      rw [Array.toList_modify, k3]
      refine pairs_modify _ _ hp j _ _ fun e p he hq => ?_
      rw [Array.getElem?_toList, Array.getElem?_eq_getElem hj] at he
      rw [List.getElem?_eq_getElem hjl] at hq
      cases he; cases hq
      rw [h5, hkey.2]
    refine ⟨.map (es.modify j fun e => { e with key := kv a }) ck, .map ((es.modify j fun e => { e with key := kv a }).modify j fun e => { e with val := v }) ck, (es[j]'hj).born, fun W hW => ?_, fun W hW => ?_⟩
    · have hWh := hW.trans hh
      rw [hg']
      refine ⟨?_, _, _, upd_at _ _ _ (Array.getElem?_eq_some_iff.1 hWh).1, hp1, hb1⟩
      unfold Instr.mapEntry
      simp only [Sem.run_bind, run_underlying ht, Result.andThen_ok, run_getObj_map W r es ck hWh, L.check, findKey_run L a W l _ hp, hf, Sem.run_pure]
      rw [Array.getElem?_eq_getElem hj]
      simp only [Option.map_some, Option.getD_some, hkey.1, Instr.keyThatStays, L.bits, if_true, Sem.run_pure, Result.andThen_ok, run_setObj_map W r es ck _ hWh]
    · refine ⟨?_, _, _, upd_at _ _ _ (Array.getElem?_eq_some_iff.1 hW).1, ?_, by rw [Array.toList_modify]; exact hb1.modify _ _ fun _ => rfl⟩
      · unfold Instr.entryStore
        simp only [Sem.run_bind, Result.andThen_ok, run_getObj_map W r _ _ hW, goInt, asInt, asIntOf, Sem.run_pure, hfi, run_setObj_map W r _ _ _ hW]
      · rw [Array.toList_modify, g3]
        have hm : l.modify j (fun p => (p.1, v)) = (put l a u).modify j (fun p => (p.1, v)) := by
          rw [k3]
          refine List.ext_getElem? fun i => ?_
          simp only [List.getElem?_modify]
          cases l[i]? with
          | none => rfl
          | some p => split <;> rfl
        rw [hm]
        refine pairs_modify _ _ hp1 j _ _ fun e p he hq => ?_
        rw [k3, List.getElem?_modify, List.getElem?_eq_getElem hjl] at hq
        rw [Array.getElem?_toList, Array.getElem?_eq_getElem hj2] at he
        cases he
        simp at hq
        subst hq
        simp [Array.getElem_modify, h5]
theorem delete_run {kt et t : TypeId} {kv : K → Value} (L : KeyLaw P kt kv) (ht : P.underlying t = some (.map kt et)) (T : TypeId) (a : K) {w : World} {r : Nat} {l : List (K × Value)} (h : MapIs kv w r l) :
    ∃ o, ∀ W : World, W.heap[r]? = w.heap[r]? → (Builtin.delete_ #[t, kt] T #[.map (some r), kv a]).run P W = .ok (.tuple #[]) (upd W r o) ∧ MapIs kv (upd W r o) r (del l a) := by
  obtain ⟨es, ck, hh, hp, hbo⟩ := h
  obtain ⟨f1, f2⟩ := fnd_put a (Value.bool true) l 0
  cases hf : fnd a l 0 with
  | none =>
    obtain ⟨_, g1⟩ := f2 hf
    refine ⟨.map es ck, fun W hW => ?_⟩
    have hWh := hW.trans hh
    refine ⟨?_, ?_⟩
    · unfold Builtin.delete_
      simp [Sem.run_bind, run_underlying ht, Result.andThen_ok, run_getObj_map W r es ck hWh, L.check, findKey_run L a W l _ hp, hf, run_setObj_map W r es ck _ hWh]
    · exact ⟨_, _, upd_at _ _ _ (Array.getElem?_eq_some_iff.1 hWh).1, by rw [g1]; exact hp, hbo⟩
  | some x =>
    obtain ⟨j, u⟩ := x
    obtain ⟨_, g2, _, g4, _⟩ := f1 j u hf
    rw [Nat.sub_zero] at g4
    refine ⟨.map (es.eraseIdxIfInBounds j) ck, fun W hW => ?_⟩
    have hWh := hW.trans hh
    refine ⟨?_, ?_⟩
    · unfold Builtin.delete_
      simp [Sem.run_bind, run_underlying ht, Result.andThen_ok, run_getObj_map W r es ck hWh, L.check, findKey_run L a W l _ hp, hf, run_setObj_map W r es ck _ hWh]
    · refine ⟨_, _, upd_at _ _ _ (Array.getElem?_eq_some_iff.1 hWh).1, ?_, by rw [Array.eraseIdxIfInBounds]; split; rw [Array.toList_eraseIdx]; exact hbo.erase _; exact hbo⟩
      have hlen : es.size = l.length := by
        have := congrArg List.length hp
        simpa [pairs, img] using this
      rw [g4, Array.eraseIdxIfInBounds, dif_pos (by omega), Array.toList_eraseIdx]
      unfold pairs img at *
      rw [map_erase, map_erase, hp]
end
section
variable {P : Program} {K : Type}
theorem len_run {kt et t : TypeId} {kv : K → Value} (ht : P.underlying t = some (.map kt et)) (T : TypeId) {w : World} {r : Nat} {l : List (K × Value)} (h : MapIs kv w r l) :
    (Builtin.len_ #[t] T #[.map (some r)]).run P w = .ok (.int .i64 l.length) w := by
  obtain ⟨es, ck, hh, hp, hbo⟩ := h
  have hlen : es.size = l.length := by
    have := congrArg List.length hp
    simpa [pairs, img] using this
  unfold Builtin.len_
  simp [Sem.run_bind, run_underlying ht, Result.andThen_ok, run_getObj_map w r es ck hh, hlen, goInt]
end
end Go.Proofs.Ytmbmnldheilffaa.M
