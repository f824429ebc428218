/- Copies: slices.Clone of texts, pairs and numbers; object.Clone. -/
import Derived.Test.YtmbmnldheilffaaMo4
import Derived.Laws.Rows
namespace Go.Proofs.Ytmbmnldheilffaa
set_option linter.unusedVariables false
set_option linter.unusedSimpArgs false
open Go.RowKit
theorem flat_one {T : Type} (cf : T → List Value) (h : ∀ x, ∀ u ∈ cf x, u.oneCell' = true) (l : List T) : ∀ u ∈ l.flatMap cf, u.oneCell' = true := by
  intro u hu
  rw [List.mem_flatMap] at hu
  obtain ⟨r, _, hr⟩ := hu
  exact h r u hr
theorem app_row {P : Program} {ops : Array Oper} {rest : List Oper} {o : Oper} {a : Act} {Q : Exit → Act → World → Prop} {w : World} (hgd : o.guard = none) (s x : Operand) (t e : TypeId)
    (ho : o.op = .call { callee := .builtin .append, args := #[s, x], argTypes := #[t, t] })
    (base size bytes : Nat) (z : Value) (ht : P.underlying t = some (.slice e)) (hinfo : (P.info? e).map (fun i => (i.zero, i.size, i.bytes)) = some (some z, size, bytes)) (hzs : z.cells.size = size) (hsz : 0 < size)
    (v : Value) (n : Nat) (xs : List Value) (hs : a.eval s = v) (HO : w.ownsRow base e size v n xs)
    (ad : Addr) (m c : Nat) (news : List Value) (hx : a.eval x = .slice (some ad) m c) (hl : news.length = m * size) (hnews : ∀ j u, news[j]? = some u → w.cell? (ad.add j) = some u) (h1 : ∀ u ∈ news, u.oneCell' = true)
    (h63 : n + m ≤ maxLen) (hbytes : (n + m) * bytes ≤ 140737488355328) (hbase : base ≤ w.heap.size)
    (h : ∀ v' w', w'.ownsRow base e size v' (n + m) (xs ++ news) → w.grownBy w' v.ownBlock → (v' = .slice none 0 0 ↔ v = .slice none 0 0 ∧ m = 0) → wpList P ops Q rest (a.put o.dst v') w') : wpList P ops Q (o :: rest) a w := by
  obtain ⟨i0, hi, hzz⟩ := Option.map_eq_some_iff.1 hinfo
  simp only [Prod.mk.injEq] at hzz
  obtain ⟨hz0, hz1, hz2⟩ := hzz
  exact wpList_append_own w hgd s x t ho base e i0 z size bytes ht hi hz0 hz1 hz2 hzs hsz v n xs hs HO ad m c news hx hl hnews h1 h63 hbytes hbase h
theorem eql_nil (P : Program) (w : World) (t e : TypeId) (a : Option Addr) (l c : Nat) (h : P.underlying t = some (.slice e)) : (binOp .eql t (.slice a l c) (.slice none 0 0)).run P w = .ok (.bool a.isNone) w := by
  have hh : ∀ d : Nat, (Op.equalIn (d + 1) t (.slice a l c) (.slice none 0 0)).run P w = .ok a.isNone w := fun d => by
    cases a <;> simp [Op.equalIn, run_underlying h]
  simp only [binOp]
  simp [Op.equal, Op.maxDepth, hh 9999]
set_option maxRecDepth 100000 in
set_option maxHeartbeats 1000000 in
/-- slices.Clone -/
theorem clone_str (l : List (ByteArray)) (A : Option Addr) (c : Nat) (w : World) (hr : RowR w A (l.flatMap cS)) (hl : l.length ≤ 1000000) :
    Calls Try.prog 30 #[.slice A l.length c] w fun e w' => ∃ A' c', e = .returned (.slice A' l.length c') ∧ w'.ownsRow w.heap.size 9 1 (.slice A' l.length c') l.length (l.flatMap cS) ∧ Below w.heap.size w w' := by
  have ht : Try.prog.underlying 22 = some (.slice 9) := Try.underlying22
  cases A with
  | none =>
    have hnil : ∀ W : World, (binOp .eql 22 (.slice none 0 c) (.slice none 0 0)).run Try.prog W = .ok (.bool true) W := fun W => eql_nil Try.prog W 22 9 none 0 c ht
    have h0 : l = [] := by
      cases l with
      | nil => rfl
      | cons x l =>
        obtain ⟨ad, h, _⟩ := hr 0 ((cS x)[0]'(by simp [cS])) (by simp [cS])
        cases h
    subst h0
    rw [show ([] : List (ByteArray)).length = 0 from rfl]
    clear hr hl ht
    go_enter Try.func30, Try.ntmps30
    go_wp2
    go_ret
    exact ⟨none, 0, rfl, G.owns_nil _ _ _ _, Below.refl _ _⟩
  | some ad =>
    have hnil : ∀ W : World, (binOp .eql 22 (.slice (some ad) l.length c) (.slice none 0 0)).run Try.prog W = .ok (.bool false) W := fun W => eql_nil Try.prog W 22 9 (some ad) l.length c ht
    have hnews : ∀ j u, (l.flatMap cS)[j]? = some u → (w.alloc (.cells #[] 9)).cell? (ad.add j) = some u := fun j u hj => by
      obtain ⟨ad', h1, h2⟩ := hr j u hj
      cases h1
      exact G.cell_below ((Below.refl _ _).alloc (Nat.le_refl _) _) h2
    have hown : (w.alloc (.cells #[] 9)).ownsRow w.heap.size 9 1 (.slice (some ⟨w.heap.size, 0, none⟩) 0 0) 0 [] := ⟨rfl, .inr ⟨w.heap.size, 0, #[], rfl, Nat.le_refl _, G.heap_new _ _, Nat.le_refl _, by decide, rfl, rfl⟩⟩
    have Hn := Lib.hid hnews
    have Ho := Lib.hid hown
    have Hl := Lib.hid hl
    clear hr hl hnews hown ht
    go_enter Try.func30, Try.ntmps30
    go_wp2_with (at_builtin; refine app_row rfl _ _ 22 9 rfl w.heap.size 1 16 _ Try.underlying22 info9 rfl (by decide) (.slice (some ⟨w.heap.size, 0, none⟩) 0 0) 0 [] rfl Ho.out ad l.length c (l.flatMap cS) rfl (flat_len cS 1 (fun _ => rfl) l) Hn.out (flat_one cS one_S l) (by have := Hl.out; unfold maxLen; omega) (by have := Hl.out; omega) (by simp) ?_; intro v1 w1 hown1 hg1 hz1)
    have Ho1 := Lib.hid hown1
    have Hg1 := Lib.hid hg1
    have Hz1 := Lib.hid hz1
    clear hown1 hg1 hz1
    go_wp2
    go_ret
    have ho : w1.ownsRow w.heap.size 9 1 v1 l.length (l.flatMap cS) := by simpa using Ho1.out
    obtain ⟨A', c', rfl⟩ := owns_slice ho
    exact ⟨A', c', rfl, ho, G.below_grown (B := w.heap.size) ((Below.refl _ _).alloc (Nat.le_refl _) _) (by simp) Ho.out Hg1.out⟩
set_option maxRecDepth 100000 in
set_option maxHeartbeats 1000000 in
/-- slices.Clone -/
theorem clone_pair (l : List (ByteArray × ByteArray)) (A : Option Addr) (c : Nat) (w : World) (hr : RowR w A (l.flatMap cP)) (hl : l.length ≤ 1000000) :
    Calls Try.prog 40 #[.slice A l.length c] w fun e w' => ∃ A' c', e = .returned (.slice A' l.length c') ∧ w'.ownsRow w.heap.size 78 2 (.slice A' l.length c') l.length (l.flatMap cP) ∧ Below w.heap.size w w' := by
  have ht : Try.prog.underlying 23 = some (.slice 78) := Try.underlying23
  cases A with
  | none =>
    have hnil : ∀ W : World, (binOp .eql 23 (.slice none 0 c) (.slice none 0 0)).run Try.prog W = .ok (.bool true) W := fun W => eql_nil Try.prog W 23 78 none 0 c ht
    have h0 : l = [] := by
      cases l with
      | nil => rfl
      | cons x l =>
        obtain ⟨ad, h, _⟩ := hr 0 ((cP x)[0]'(by simp [cP])) (by simp [cP])
        cases h
    subst h0
    rw [show ([] : List (ByteArray × ByteArray)).length = 0 from rfl]
    clear hr hl ht
    go_enter Try.func40, Try.ntmps40
    go_wp2
    go_ret
    exact ⟨none, 0, rfl, G.owns_nil _ _ _ _, Below.refl _ _⟩
  | some ad =>
    have hnil : ∀ W : World, (binOp .eql 23 (.slice (some ad) l.length c) (.slice none 0 0)).run Try.prog W = .ok (.bool false) W := fun W => eql_nil Try.prog W 23 78 (some ad) l.length c ht
    have hnews : ∀ j u, (l.flatMap cP)[j]? = some u → (w.alloc (.cells #[] 78)).cell? (ad.add j) = some u := fun j u hj => by
      obtain ⟨ad', h1, h2⟩ := hr j u hj
      cases h1
      exact G.cell_below ((Below.refl _ _).alloc (Nat.le_refl _) _) h2
    have hown : (w.alloc (.cells #[] 78)).ownsRow w.heap.size 78 2 (.slice (some ⟨w.heap.size, 0, none⟩) 0 0) 0 [] := ⟨rfl, .inr ⟨w.heap.size, 0, #[], rfl, Nat.le_refl _, G.heap_new _ _, Nat.le_refl _, by decide, rfl, rfl⟩⟩
    have Hn := Lib.hid hnews
    have Ho := Lib.hid hown
    have Hl := Lib.hid hl
    clear hr hl hnews hown ht
    go_enter Try.func40, Try.ntmps40
    go_wp2_with (at_builtin; refine app_row rfl _ _ 23 78 rfl w.heap.size 2 32 _ Try.underlying23 info102 rfl (by decide) (.slice (some ⟨w.heap.size, 0, none⟩) 0 0) 0 [] rfl Ho.out ad l.length c (l.flatMap cP) rfl (flat_len cP 2 (fun _ => rfl) l) Hn.out (flat_one cP one_P l) (by have := Hl.out; unfold maxLen; omega) (by have := Hl.out; omega) (by simp) ?_; intro v1 w1 hown1 hg1 hz1)
    have Ho1 := Lib.hid hown1
    have Hg1 := Lib.hid hg1
    have Hz1 := Lib.hid hz1
    clear hown1 hg1 hz1
    go_wp2
    go_ret
    have ho : w1.ownsRow w.heap.size 78 2 v1 l.length (l.flatMap cP) := by simpa using Ho1.out
    obtain ⟨A', c', rfl⟩ := owns_slice ho
    exact ⟨A', c', rfl, ho, G.below_grown (B := w.heap.size) ((Below.refl _ _).alloc (Nat.le_refl _) _) (by simp) Ho.out Hg1.out⟩
set_option maxRecDepth 100000 in
set_option maxHeartbeats 1000000 in
/-- slices.Clone -/
theorem clone_int (l : List (Int)) (A : Option Addr) (c : Nat) (w : World) (hr : RowR w A (l.flatMap cI)) (hl : l.length ≤ 1000000) :
    Calls Try.prog 41 #[.slice A l.length c] w fun e w' => ∃ A' c', e = .returned (.slice A' l.length c') ∧ w'.ownsRow w.heap.size 3 1 (.slice A' l.length c') l.length (l.flatMap cI) ∧ Below w.heap.size w w' := by
  have ht : Try.prog.underlying 24 = some (.slice 3) := Try.underlying24
  cases A with
  | none =>
    have hnil : ∀ W : World, (binOp .eql 24 (.slice none 0 c) (.slice none 0 0)).run Try.prog W = .ok (.bool true) W := fun W => eql_nil Try.prog W 24 3 none 0 c ht
    have h0 : l = [] := by
      cases l with
      | nil => rfl
      | cons x l =>
        obtain ⟨ad, h, _⟩ := hr 0 ((cI x)[0]'(by simp [cI])) (by simp [cI])
        cases h
    subst h0
    rw [show ([] : List (Int)).length = 0 from rfl]
    clear hr hl ht
    go_enter Try.func41, Try.ntmps41
    go_wp2
    go_ret
    exact ⟨none, 0, rfl, G.owns_nil _ _ _ _, Below.refl _ _⟩
  | some ad =>
    have hnil : ∀ W : World, (binOp .eql 24 (.slice (some ad) l.length c) (.slice none 0 0)).run Try.prog W = .ok (.bool false) W := fun W => eql_nil Try.prog W 24 3 (some ad) l.length c ht
    have hnews : ∀ j u, (l.flatMap cI)[j]? = some u → (w.alloc (.cells #[] 3)).cell? (ad.add j) = some u := fun j u hj => by
      obtain ⟨ad', h1, h2⟩ := hr j u hj
      cases h1
      exact G.cell_below ((Below.refl _ _).alloc (Nat.le_refl _) _) h2
    have hown : (w.alloc (.cells #[] 3)).ownsRow w.heap.size 3 1 (.slice (some ⟨w.heap.size, 0, none⟩) 0 0) 0 [] := ⟨rfl, .inr ⟨w.heap.size, 0, #[], rfl, Nat.le_refl _, G.heap_new _ _, Nat.le_refl _, by decide, rfl, rfl⟩⟩
    have Hn := Lib.hid hnews
    have Ho := Lib.hid hown
    have Hl := Lib.hid hl
    clear hr hl hnews hown ht
    go_enter Try.func41, Try.ntmps41
    go_wp2_with (at_builtin; refine app_row rfl _ _ 24 3 rfl w.heap.size 1 8 _ Try.underlying24 info3 rfl (by decide) (.slice (some ⟨w.heap.size, 0, none⟩) 0 0) 0 [] rfl Ho.out ad l.length c (l.flatMap cI) rfl (flat_len cI 1 (fun _ => rfl) l) Hn.out (flat_one cI one_I l) (by have := Hl.out; unfold maxLen; omega) (by have := Hl.out; omega) (by simp) ?_; intro v1 w1 hown1 hg1 hz1)
    have Ho1 := Lib.hid hown1
    have Hg1 := Lib.hid hg1
    have Hz1 := Lib.hid hz1
    clear hown1 hg1 hz1
    go_wp2
    go_ret
    have ho : w1.ownsRow w.heap.size 3 1 v1 l.length (l.flatMap cI) := by simpa using Ho1.out
    obtain ⟨A', c', rfl⟩ := owns_slice ho
    exact ⟨A', c', rfl, ho, G.below_grown (B := w.heap.size) ((Below.refl _ _).alloc (Nat.le_refl _) _) (by simp) Ho.out Hg1.out⟩
end Go.Proofs.Ytmbmnldheilffaa
