/- The walks of the reference's Has and Without, and of New. -/
import Derived.Test.YthmknlflgajnpaaQue4
namespace Go.Proofs.Ythmknlflgajnpaa
open Go.RowKit
def Row (w : World) (v : Value) (l : List Ref) : Prop :=
  (v = .slice none 0 0 ∧ l = []) ∨ ∃ g c, v = .slice (some ⟨g, 0, none⟩) l.length c ∧ l.length ≤ c ∧ ∀ j u, (l.flatMap rc)[j]? = some u → w.cell? ⟨g, j, none⟩ = some u
theorem Row.below {w w1 : World} {v : Value} {l : List Ref} (h : Row w v l) (hb : Below w.heap.size w w1) : Row w1 v l := by
  rcases h with h | ⟨g, c, h1, h2, h3⟩
  · exact .inl h
  · exact .inr ⟨g, c, h1, h2, fun j u hj => G.cell_below hb (h3 j u hj)⟩
theorem Row.of_owns {w : World} {B n : Nat} {v : Value} {l : List Ref} (h : w.ownsRow B 30 2 v n (l.flatMap rc)) : Row w v l := by
  have hx := G.HasRow.of_owns h
  obtain ⟨hl, ⟨rfl, rfl⟩ | ⟨g, cap, cur, rfl, h1, h2, h3, h4⟩⟩ := h
  · refine .inl ⟨rfl, ?_⟩
    rw [row_len] at hl
    exact List.eq_nil_of_length_eq_zero (by omega)
  · rw [row_len] at hl
    obtain rfl : n = l.length := by omega
    obtain ⟨_, A, c, hv, _, _, hc⟩ := hx
    cases hv
    refine .inr ⟨g, cap, rfl, h3, fun j u hj => ?_⟩
    obtain ⟨ad, ha, hcell⟩ := hc j u hj
    cases ha
    rw [G.add_plain, Nat.zero_add] at hcell; exact hcell
theorem flat_at : ∀ (l : List Ref) (k : Nat) (h : k < l.length), (l.flatMap rc)[k * 2]? = some (.int .i64 l[k].kind) ∧ (l.flatMap rc)[k * 2 + 1]? = some (.string l[k].name)
  | a :: l, 0, _ => ⟨rfl, rfl⟩
  | a :: l, k + 1, h => by
    have := flat_at l k (by simpa using h)
    rw [List.flatMap_cons, List.getElem?_append_right (by simp [rc]; omega), List.getElem?_append_right (by simp [rc]; omega)]
    simp only [rc, List.length_cons, List.length_nil, List.getElem_cons_succ]
    rw [show (k + 1) * 2 - (0 + 1 + 1) = k * 2 by omega, show (k + 1) * 2 + 1 - (0 + 1 + 1) = k * 2 + 1 by omega]
    exact this
theorem run_eq_ref (a b : Ref) (W : World) : (binOp .eql 30 (rv a) (rv b)).run Try.prog W = .ok (.bool (decide (a = b))) W := by
  have := ref_eq a b 9998 W
  simp only [binOp, rv] at *
  simp [Op.equal, Op.maxDepth, this]
theorem run_ne_ref (a b : Ref) (W : World) : (binOp .neq 30 (rv a) (rv b)).run Try.prog W = .ok (.bool (!decide (a = b))) W := by
  have := ref_eq a b 9998 W
  simp only [binOp, rv] at *
  simp [Op.equal, Op.maxDepth, this]
set_option maxRecDepth 100000 in
set_option maxHeartbeats 1000000 in
theorem has_any (v : Value) (l : List Ref) (r : Ref) (w : World) (h : Row w v l) (hl : l.length ≤ 1000000) :
    Calls Try.prog 10 #[v, rv r] w fun e w' => e = .returned (.bool (decide (r ∈ l))) ∧ Below w.heap.size w w' := by
  have hbW : Below w.heap.size w (w.alloc (.cells #[.int .i64 r.kind, .string r.name] 30)) := (Below.refl _ _).alloc (Nat.le_refl _) _
  rcases h with ⟨rfl, rfl⟩ | ⟨g, c, rfl, hcap, hc⟩
  · have Hb := Lib.hid hbW
    clear hbW hl
    unfold rv
    go_enter Try.func10, Try.ntmps10
    go_wp2
    go_loopw [5] (fun i wr => i = .int .i64 0 ∧ wr = w.alloc (.cells #[.int .i64 r.kind, .string r.name] 30)) (fun _ _ => 0)
    case atStart => exact ⟨rfl, rfl⟩
    case round =>
      obtain ⟨rfl, rfl⟩ := hrel
      go_wp2
      go_ret
      exact ⟨rfl, Hb.out⟩
  · have hcW : ∀ k (hk : k < l.length) (q : Nat), ((w.alloc (.cells #[.int .i64 r.kind, .string r.name] 30)).drewN q).cell? ⟨g, k * 2, none⟩ = some (.int .i64 l[k].kind) ∧ ((w.alloc (.cells #[.int .i64 r.kind, .string r.name] 30)).drewN q).cell? ⟨g, k * 2 + 1, none⟩ = some (.string l[k].name) := fun k hk q =>
      ⟨G.cell_below (G.bdrewN hbW q) (hc _ _ (flat_at l k hk).1), G.cell_below (G.bdrewN hbW q) (hc _ _ (flat_at l k hk).2)⟩
    have hr : ∀ q, ((w.alloc (.cells #[.int .i64 r.kind, .string r.name] 30)).drewN q).heap[w.heap.size]? = some (.cells #[.int .i64 r.kind, .string r.name] 30 (0, 0)) := fun q => G.heap_new w _
    have HC := Lib.hid hcW
    have HR := Lib.hid hr
    have Hb := Lib.hid hbW
    obtain ⟨n, hn⟩ : ∃ n, n = l.length := ⟨_, rfl⟩
    rw [← hn] at hcap hl
    rw [← hn]
    have Hn := Lib.hid hn
    have Hcap := Lib.hid hcap
    clear hbW hc hcW hr hn hcap
    unfold rv
    go_enter Try.func10, Try.ntmps10
    go_wp2
    go_loopw [5] (fun i wr => ∃ k : Nat, k ≤ n ∧ i = .int .i64 k ∧ (∃ q, wr = (w.alloc (.cells #[.int .i64 r.kind, .string r.name] 30)).drewN q) ∧ Hid (∀ j (hj : j < l.length), j < k → l[j] ≠ r)) (fun i _ => n - (intOf i).toNat)
    case atStart => exact ⟨0, by omega, by go_num, ⟨0, rfl⟩, Lib.hid (by intro j _ h; omega)⟩
    case round =>
      obtain ⟨k, hk, rfl, ⟨q, hq⟩, H⟩ := hrel
      have b1 := HR.out q
      rw [← hq] at b1
      have e1 : wr.cell? ⟨w.heap.size, 0, none⟩ = some (.int .i64 r.kind) := by simp [World.cell?, b1]
      have e2 : wr.cell? ⟨w.heap.size, 1, none⟩ = some (.string r.name) := by simp [World.cell?, b1]
      have Hq := Lib.hid hq
      clear b1 hq
      by_cases hlt : k < n
      · have hka : k < l.length := by have := Hn.out; omega
        have c1 := (HC.out k hka q).1
        have c2 := (HC.out k hka q).2
        rw [← Hq.out] at c1 c2
        obtain ⟨x, hx⟩ : ∃ x, x = l[k] := ⟨_, rfl⟩
        rw [← hx] at c1 c2
        have Hx := Lib.hid hx
        clear hx
        by_cases he : x = r
        · have heq := run_eq_ref x r
          unfold rv at heq
          rw [decide_eq_true he] at heq
          have He := Lib.hid he
          clear he
          go_wp2
          go_quiet (fail)
          go_wp2
          go_ret
          refine ⟨?_, ?_⟩
          · have : r ∈ l := by rw [← He.out, Hx.out]; exact List.getElem_mem _
            rw [decide_eq_true this]; rfl
          · have hw := Hq.out; subst hw; exact G.bdrewN (G.bdrewN Hb.out _) _
        · have heq := run_eq_ref x r
          unfold rv at heq
          rw [decide_eq_false he] at heq
          have Hnx : Hid (∀ j (hj : j < l.length), j < k + 1 → l[j] ≠ r) := Lib.hid (by
            intro j hj h1 e
            rcases Nat.lt_or_ge j k with h2 | h2
            · exact H.out j hj h2 e
            · obtain rfl : j = k := by omega
              exact he (Hx.out.trans e))
          have Hk := Lib.hid hka
          clear he
          go_wp2
          go_quiet (fail)
          go_wp2
          go_roundw
          case rel =>
            refine ⟨k + 1, by omega, by go_num, ?_, Hnx⟩
            have hw := Hq.out
            subst hw
            exact ⟨q + nq, World.drewN_drewN _ _ _⟩
          case measure => simp [intOf]; omega
      · have hkn : k = n := by omega
        have hfin : decide (r ∈ l) = false := by
          rw [decide_eq_false_iff_not]
          intro hm
          obtain ⟨j, hj, e⟩ := List.getElem_of_mem hm
          exact H.out j hj (by have := Hn.out; omega) e
        have Hf := Lib.hid hfin
        clear hfin
        subst hkn
        go_wp2
        go_ret
        refine ⟨by rw [Hf.out]; rfl, ?_⟩
        have hw := Hq.out; subst hw; exact G.bdrewN Hb.out _
theorem new_inv (base top : Int) (w : World) : ∃ d, Inv w.heap.size (w.heap.size + 4) ⟨base, top, 0, [], [], fun _ => []⟩ d
    (((((w.alloc (.map #[] 0)).alloc (.map #[] 0)).alloc (.map #[] 0)).alloc (.map #[] 0)).alloc (.cells #[.int .i64 base, .int .i64 top, .int .i64 0, .slice none 0 0, .map (some w.heap.size), .map (some (w.heap.size + 1)), .map (some (w.heap.size + 2)), .slice none 0 0, .map (some (w.heap.size + 3))] 60)) := by
  have key : ∀ (V : World) (o : Obj) (j : Nat), (V.alloc o).heap[j]? = if j = V.heap.size then some o else V.heap[j]? := fun V o j => by
    by_cases h : j = V.heap.size
    · rw [if_pos h, h]; exact G.heap_new V o
    · rw [if_neg h]
      rcases Nat.lt_or_ge j V.heap.size with h1 | h1
      · exact ((Below.refl V.heap.size V).alloc (Nat.le_refl _) o).block j h1
      · rw [Array.getElem?_eq_none (by simp [World.alloc, -World.alloc_eq]; omega), Array.getElem?_eq_none h1]
  have sz : ∀ (V : World) (o : Obj), (V.alloc o).heap.size = V.heap.size + 1 := fun V o => by simp [World.alloc, -World.alloc_eq]
  refine ⟨⟨.slice none 0 0, .slice none 0 0, fun i => w.heap.size + i.val⟩, ?_, by omega, G.owns_nil _ _ _ _, G.owns_nil _ _ _ _, fun i => ⟨#[], 0, ?_, rfl, by simp [M.Births]⟩, fun i => by show w.heap.size ≤ w.heap.size + i.val; omega, fun i j h e => h (Fin.ext (by have : w.heap.size + i.val = w.heap.size + j.val := e; omega))⟩
  · rw [key, if_pos (by simp only [sz])]
    rfl
  · have hi := i.isLt
    simp only [key, sz]
    have : i.val = 0 ∨ i.val = 1 ∨ i.val = 2 ∨ i.val = 3 := by omega
    rcases this with h | h | h | h <;> simp [h] <;> omega
set_option maxRecDepth 100000 in
set_option maxHeartbeats 1000000 in
theorem new_any (base top : Int) (w : World) (h : 1 ≤ base ∧ base ≤ top ∧ top ≤ 1048576) :
    Calls Try.prog 26 #[.int .i64 base, .int .i64 top] w fun e w' => ∃ qb d, e = .returned (.tuple #[.pointer (some ⟨qb, 0, none⟩), .int .i64 0]) ∧ Inv w.heap.size qb ⟨base, top, 0, [], [], fun _ => []⟩ d w' ∧ Below w.heap.size w w' := by
  obtain ⟨h1, h2, h3⟩ := h
  have t1 : decide (base < 1) = false := decide_eq_false (by omega)
  have t2 : decide (top < base) = false := decide_eq_false (by omega)
  have t3 : decide (1048576 < top) = false := decide_eq_false (by omega)
  have hmm : ∀ W : World, (Instr.makeMap 56 none).run Try.prog W = .ok (.map (some W.heap.size)) (W.alloc (.map #[] 0)) := fun W => rfl
  obtain ⟨d, hI⟩ := new_inv base top w
  have HI := Lib.hid hI
  clear hI h1 h2 h3
  go_enter Try.func26, Try.ntmps26
  go_wp2
  go_ret2
  refine ⟨_, d, rfl, HI.out, ?_⟩
  exact ((((((Below.refl _ w).alloc (Nat.le_refl _) _).alloc (by simp) _).alloc (by simp; omega) _).alloc (by simp; omega) _).alloc (by simp; omega) _)
set_option maxRecDepth 100000 in
set_option maxHeartbeats 1000000 in
theorem new_bad (base top : Int) (w : World) (h : base < 1 ∨ top < base ∨ 1048576 < top) :
    Calls Try.prog 26 #[.int .i64 base, .int .i64 top] w fun e w' => e = .returned (.tuple #[.pointer none, .int .i64 1]) ∧ w' = w := by
  by_cases h1 : base < 1
  · have t1 : decide (base < 1) = true := decide_eq_true h1
    go_enter Try.func26, Try.ntmps26
    go_wp2
    go_ret2
    exact ⟨rfl, rfl⟩
  · have t1 : decide (base < 1) = false := decide_eq_false h1
    by_cases h2 : top < base
    · have t2 : decide (top < base) = true := decide_eq_true h2
      go_enter Try.func26, Try.ntmps26
      go_wp2
      go_ret2
      exact ⟨rfl, rfl⟩
    · have t2 : decide (top < base) = false := decide_eq_false h2
      have t3 : decide (1048576 < top) = true := decide_eq_true (by omega)
      go_enter Try.func26, Try.ntmps26
      go_wp2
      go_ret2
      exact ⟨rfl, rfl⟩
end Go.Proofs.Ythmknlflgajnpaa
