/- Rows of texts that are sorted, made compact: the library's contracts on rows that a call owns; the mirror's texts of an object. -/
import Derived.Test.YtmbmnldheilffaaMi3
import Derived.Test.YtmbmnldheilffaaLay
import Derived.Sort.OwnSorted
namespace Go.Proofs.Ytmbmnldheilffaa
set_option linter.unusedVariables false
set_option linter.unusedSimpArgs false
open Go.RowKit Go.Sort
/-! ### lists, made compact -/
theorem compact_sorted {α : Type} [Inhabited α] [DecidableEq α] (R : α → α → Prop) (anti : ∀ a b, R a b → R b a → a = b) (zs : List α) (hs : zs.Pairwise R) : (Lib.compact zs).Nodup ∧ ∀ x, x ∈ Lib.compact zs ↔ x ∈ zs := by
  have at' : ∀ (j : Nat) (hj : j < zs.length), zs.toArray[j]! = zs[j] := fun j hj => by rw [getElem!_pos _ j (by simpa using hj)]; simp
  rw [List.pairwise_iff_getElem] at hs
  have key : ∀ m, m ≤ zs.length → (Lib.compactUpTo zs.toArray m).Nodup ∧ ∀ x, x ∈ Lib.compactUpTo zs.toArray m ↔ ∃ j, ∃ hj : j < zs.length, j < m ∧ zs[j] = x := by
    intro m
    induction m with
    | zero => intro _; exact ⟨by simp [Lib.compactUpTo], fun x => by simp [Lib.compactUpTo]⟩
    | succ m ih =>
      intro hm
      obtain ⟨h1, h2⟩ := ih (by omega)
      rw [Lib.compactUpTo_succ]
      by_cases hk : Lib.keeps zs.toArray m = true
      · rw [if_pos hk, at' m (by omega)]
        refine ⟨List.nodup_append.2 ⟨h1, by simp, fun a ha b hb hab => ?_⟩, fun x => ?_⟩
        · rw [List.mem_singleton.1 hb] at hab
          obtain ⟨j, hj, hjm, e⟩ := (h2 a).1 ha
          simp only [Lib.keeps, decide_eq_true_iff] at hk
          rcases hk with hk | hk
          · omega
          · rw [at' m (by omega), at' (m - 1) (by omega)] at hk
            apply hk
            have hjl : zs[j] = zs[m - 1]'(by omega) ∨ R zs[j] (zs[m - 1]'(by omega)) := by
              rcases Nat.lt_or_ge j (m - 1) with h | h
              · exact .inr (hs j (m - 1) hj (by omega) h)
              · have : j = m - 1 := by omega
                subst this
                exact .inl rfl
            have hl := hs (m - 1) m (by omega) (by omega) (by omega)
            rcases hjl with h | h
            · rw [← h, e, hab]
            · rw [e, hab] at h
              exact anti _ _ h hl
        · rw [List.mem_append, h2, List.mem_singleton]
          constructor
          · rintro (⟨j, hj, hjm, e⟩ | rfl)
            · exact ⟨j, hj, by omega, e⟩
            · exact ⟨m, by omega, by omega, rfl⟩
          · rintro ⟨j, hj, hjm, e⟩
            rcases Nat.lt_or_ge j m with h | h
            · exact .inl ⟨j, hj, h, e⟩
            · have : j = m := by omega
              subst this
              exact .inr e.symm
      · rw [if_neg hk, List.append_nil]
        refine ⟨h1, fun x => ?_⟩
        rw [h2]
        constructor
        · rintro ⟨j, hj, hjm, e⟩
          exact ⟨j, hj, by omega, e⟩
        · rintro ⟨j, hj, hjm, e⟩
          rcases Nat.lt_or_ge j m with h | h
          · exact ⟨j, hj, h, e⟩
          · have : j = m := by omega
            subst this
            simp only [Lib.keeps, decide_eq_true_iff, not_or, Classical.not_not] at hk
            obtain ⟨h0, hk⟩ := hk
            rw [at' j (by omega), at' (j - 1) (by omega)] at hk
            exact ⟨j - 1, by omega, by omega, by rw [← hk]; exact e⟩
  obtain ⟨h1, h2⟩ := key zs.length (Nat.le_refl _)
  refine ⟨h1, fun x => ?_⟩
  unfold Lib.compact
  rw [h2, List.mem_iff_getElem]
  exact ⟨fun ⟨j, hj, _, e⟩ => ⟨j, hj, e⟩, fun ⟨j, hj, e⟩ => ⟨j, hj, hj, e⟩⟩
/-! ### rows of texts -/
def uS (b : List UInt8) : ByteArray := ⟨b.toArray⟩
theorem uS_BL (x : ByteArray) : uS (BL x) = x := by cases x; simp [uS, BL]
theorem BL_uS (b : List UInt8) : BL (uS b) = b := by simp [uS, BL]
theorem enc_cS (ss : List (List UInt8)) : ss.map encStr = (ss.map uS).flatMap cS := by
  induction ss with
  | nil => rfl
  | cons b ss ih => rw [List.map_cons, List.map_cons, List.flatMap_cons, ih]; rfl
theorem cS_enc (l : List ByteArray) : l.flatMap cS = (l.map BL).map encStr := by
  rw [enc_cS, List.map_map]
  congr 1
  exact (List.map_id'' (fun x => uS_BL x) l).symm
/-- the row's cells behind a sort or the like -/
theorem own_put {w : World} {B g n cap q m : Nat} {os : Array Obj} {xs : List Value} (h : w.ownsRow B 9 1 (.slice (some ⟨g, 0, none⟩) n cap) n xs) (ts : List (List UInt8)) (hl : ts.length ≤ n) (hm : m ≤ ts.length) :
    (grow (putRow encStr (Sort.ahead w q) g 0 ts.toArray) os).ownsRow B 9 1 (.slice (some ⟨g, 0, none⟩) m cap) m ((ts.take m).map encStr) ∧ w.grownBy (grow (putRow encStr (Sort.ahead w q) g 0 ts.toArray) os) (some g) := by
  refine ⟨?_, grownBy_sorted _⟩
  obtain ⟨_, ⟨h1, _⟩ | ⟨g', cap', cur, h1, hb, hh, h2, h3, h4, h5⟩⟩ := h
  · injection h1 with h1 _ _; cases h1
  · injection h1 with h1 h1' h1''
    injection h1 with h1
    injection h1 with h1
    subst h1; subst h1''
    refine ⟨by simp; omega, .inr ⟨g, cap, putCells encStr 0 ts.toArray cur, rfl, hb, heap_sorted _ hh, by omega, h3, by simp [putCells]; omega, ?_⟩⟩
    have ht := take_putCells cur ts (by omega)
    have hx := congrArg (List.take m) ht
    rw [List.take_take, Nat.min_eq_left hm] at hx
    rw [Nat.mul_one, hx, List.map_take]
theorem own_block {w : World} {B e size n : Nat} {v : Value} {xs : List Value} (h : w.ownsRow B e size v n xs) (hn : 0 < n) : ∃ g cap, v = .slice (some ⟨g, 0, none⟩) n cap ∧ n ≤ cap ∧ cap ≤ maxLen ∧ B ≤ g ∧ ∃ cur, w.heap[g]? = some (.cells cur e (0, 0)) ∧ cur.size = cap * size ∧ cur.toList.take (n * size) = xs := by
  obtain ⟨_, ⟨_, h2⟩ | ⟨g', cap', cur, h1, hb, hh, h2, h3, h4, h5⟩⟩ := h
  · omega
  · exact ⟨g', cap', h1, h2, h3, hb, cur, hh, h4, h5⟩
/-- slices.Sort on a row that the call owns -/
theorem sort_own (B : Nat) (l : List ByteArray) (A : Option Addr) (c : Nat) (w : World) (h : w.ownsRow B 9 1 (.slice A l.length c) l.length (l.flatMap cS)) (hl : l.length ≤ 1000000) :
    Calls Try.prog 59 #[.slice A l.length c] w fun e w' => e = .returned (.tuple #[]) ∧ ∃ zs : List (List UInt8), zs.length = l.length ∧ zs.Pairwise (fun a b => a ≤ b) ∧ (∀ x, x ∈ zs ↔ uS x ∈ l) ∧
      w'.ownsRow B 9 1 (.slice A l.length c) l.length (zs.map encStr) ∧ w.grownBy w' (Value.slice A l.length c).ownBlock := by
  rcases Nat.eq_zero_or_pos l.length with h0 | h0
  · obtain rfl := List.eq_nil_of_length_eq_zero h0
    refine (AnyM.slices_Sort_string_none Try.sortS A c w).mono ?_
    rintro e w' ⟨rfl, rfl⟩
    exact ⟨rfl, [], rfl, List.Pairwise.nil, by simp, h, World.grownBy.refl _ _⟩
  · obtain ⟨g, cap, hv, h1, h2, hB, cur, hh, h3, h4⟩ := own_block h h0
    injection hv with hv1 _ hv2
    subst hv1; subst hv2
    have hH : Holds encStr w g 0 (l.map BL).toArray := holds_of_block hh (by rw [List.length_map, ← cS_enc, ← h4, Nat.mul_one])
    have hc := AnyM.slices_Sort_string Try.sortS g 0 c (l.map BL) w hH (Array.getElem?_eq_some_iff.1 hh).1 (by rw [List.length_map]; omega)
    rw [List.length_map] at hc
    refine hc.mono ?_
    rintro e w' ⟨rfl, n, os, rfl⟩
    have hlen : ((l.map BL).mergeSort fun x y => decide (x ≤ y)).length = l.length := by simp
    obtain ⟨o1, o2⟩ := own_put (q := n) (m := l.length) (os := os) h ((l.map BL).mergeSort fun x y => decide (x ≤ y)) (by omega) (by omega)
    refine ⟨rfl, _, hlen, ?_, fun x => ?_, ?_, o2⟩
    · have := List.pairwise_mergeSort (le := fun x y : List UInt8 => decide (x ≤ y)) (fun a b c h g => by simp only [decide_eq_true_iff] at *; exact List.le_trans h g) (fun a b => by simp only [Bool.or_eq_true, decide_eq_true_iff]; exact List.le_total a b) (l.map BL)
      exact this.imp (fun h => by simpa using h)
    · rw [List.mem_mergeSort, List.mem_map]
      constructor
      · rintro ⟨y, hy, rfl⟩
        rw [uS_BL]; exact hy
      · intro hx
        exact ⟨_, hx, BL_uS x⟩
    · rw [← hlen, List.take_length] at o1
      rw [hlen] at o1
      exact o1
/-- slices.Compact on a row that rises -/
theorem compact_own (B : Nat) (zs : List (List UInt8)) (A : Option Addr) (c : Nat) (w : World) (h : w.ownsRow B 9 1 (.slice A zs.length c) zs.length (zs.map encStr)) (hs : zs.Pairwise fun a b => a ≤ b) (hl : zs.length ≤ 1000000) :
    Calls Try.prog 60 #[.slice A zs.length c] w fun e w' => ∃ T : List ByteArray, e = .returned (.slice A T.length c) ∧ T.Nodup ∧ (∀ x, x ∈ T ↔ BL x ∈ zs) ∧ T.length ≤ zs.length ∧
      w'.ownsRow B 9 1 (.slice A T.length c) T.length (T.flatMap cS) ∧ w.grownBy w' (Value.slice A zs.length c).ownBlock := by
  rcases Nat.eq_zero_or_pos zs.length with h0 | h0
  · obtain rfl := List.eq_nil_of_length_eq_zero h0
    refine (Any.slices_Compact_string_empty Try.compS A c w).mono ?_
    rintro e w' ⟨rfl, rfl⟩
    exact ⟨[], rfl, List.nodup_nil, by simp, Nat.le_refl _, h, World.grownBy.refl _ _⟩
  · obtain ⟨g, cap, hv, h1, h2, hB, cur, hh, h3, h4⟩ := own_block h h0
    injection hv with hv1 _ hv2
    subst hv1; subst hv2
    have hH : Holds encStr w g 0 zs.toArray := holds_of_block hh (by rw [← h4, Nat.mul_one])
    obtain ⟨n1, n2⟩ := compact_sorted (fun a b : List UInt8 => a ≤ b) (fun a b h g => List.le_antisymm h g) zs hs
    refine (Any.slices_Compact_string Try.compS g 0 c zs w hH (by omega) (by omega)).mono ?_
    rintro e w' ⟨rfl, q, rfl⟩
    have hle : (Lib.compact zs).length ≤ zs.length := by
      unfold Lib.compact Lib.compactUpTo
      rw [List.length_map]
      exact Nat.le_trans (List.length_filter_le _ _) (by simp)
    obtain ⟨o1, o2⟩ := own_put (q := q) (m := (Lib.compact zs).length) (os := #[]) h (Lib.compact zs ++ List.replicate (zs.length - (Lib.compact zs).length) []) (by simp; omega) (by simp)
    have hg : ∀ W : World, grow W #[] = W := fun W => by unfold grow; simp
    rw [hg] at o1 o2
    refine ⟨(Lib.compact zs).map uS, by rw [List.length_map], ?_, fun x => ?_, by rw [List.length_map]; exact hle, ?_, o2⟩
    · rw [List.Nodup, List.pairwise_map]
      exact List.Pairwise.imp (fun {a b} h e => h (by have := congrArg BL e; rwa [BL_uS, BL_uS] at this)) n1
    · rw [List.mem_map, ← n2]
      constructor
      · rintro ⟨y, hy, rfl⟩
        rw [BL_uS]; exact hy
      · intro hx
        exact ⟨_, hx, uS_BL x⟩
    · rw [List.take_left] at o1
      rw [List.length_map, ← enc_cS]
      exact o1
/-- the mirror's texts of an object: each once -/
def TextsOf (o : Ob) (T : List ByteArray) : Prop := T.Nodup ∧ (∀ s, s ∈ T ↔ s ∈ txts o) ∧ T.length ≤ 1000000
theorem grown_below {w w1 w2 : World} {B e size n : Nat} {v : Value} {xs : List Value} (h : Below B w w1) (ho : w1.ownsRow B e size v n xs) (hB : B ≤ w.heap.size) (hg : w1.grownBy w2 v.ownBlock) : Below B w w2 := h.grown hg (Nat.le_trans hB h.size) (G.owns_base ho)
/-- sort and compact behind each other -/
theorem sorted_compact (o : Ob) (l : List ByteArray) (ht : txts o = l) (hl : l.length ≤ 1000000) (w W : World) (A : Option Addr) (c : Nat) (ho : W.ownsRow w.heap.size 9 1 (.slice A l.length c) l.length (l.flatMap cS)) (hb : Below w.heap.size w W) :
    Calls Try.prog 59 #[.slice A l.length c] W fun e w1 => e = .returned (.tuple #[]) ∧ Calls Try.prog 60 #[.slice A l.length c] w1 fun e w2 =>
      ∃ (T : List ByteArray) (A' : Option Addr) (c' : Nat), e = .returned (.slice A' T.length c') ∧ TextsOf o T ∧ w2.ownsRow w.heap.size 9 1 (.slice A' T.length c') T.length (T.flatMap cS) ∧ Below w.heap.size w w2 := by
  refine (sort_own w.heap.size l A c W ho hl).mono ?_
  rintro e w1 ⟨rfl, zs, hz, hp, hm, o1, g1⟩
  refine ⟨rfl, ?_⟩
  rw [← hz] at o1 ⊢
  refine (compact_own w.heap.size zs A c w1 o1 hp (by omega)).mono ?_
  rintro e w2 ⟨T, rfl, hn, hT, hle, o2, g2⟩
  refine ⟨T, A, c, rfl, ⟨hn, fun s => ?_, by omega⟩, o2, ?_⟩
  · rw [hT, hm, uS_BL, ht]
  · have b1 := grown_below hb ho (Nat.le_refl _) g1
    exact grown_below b1 o1 (Nat.le_refl _) g2
set_option maxRecDepth 100000 in
set_option maxHeartbeats 2000000 in
theorem texts_any (o : Ob) (f l c p i : Sl) (w : World) (hr : RowsR w o f l c p i) (hs : Sz5 o) :
    Calls Try.prog 46 #[.agg (oc o f l c p i)] w fun e w' => ∃ (T : List ByteArray) (A : Option Addr) (c' : Nat), e = .returned (.slice A T.length c') ∧ TextsOf o T ∧ w'.ownsRow w.heap.size 9 1 (.slice A T.length c') T.length (T.flatMap cS) ∧ Below w.heap.size w w' := by
  obtain ⟨w1, hw1⟩ : ∃ w1, w1 = w.alloc (.cells (oc o f l c p i) 26) := ⟨_, rfl⟩
  have b1 : Below w.heap.size w w1 := by rw [hw1]; exact bel_alloc _ _
  have p1 : w1.heap[w.heap.size]? = some (.cells (oc o f l c p i) 26 (0, 0)) := by rw [hw1]; exact G.heap_new _ _
  obtain ⟨x, hx⟩ : ∃ x, x = w.heap.size := ⟨_, rfl⟩
  rw [← hx] at p1
  have k0 : w1.cell? ⟨x, 0, none⟩ = some (.int .i64 o.kind) := by simp [World.cell?, p1, oc]
  have hr1 := hr.below b1
  have HW := Lib.hid hw1
  by_cases h1 : o.kind = 1
  · have k7 : w1.cell? ⟨x, 7, none⟩ = some (.slice c.A o.cidrs.length c.c) := by simp [World.cell?, p1, oc]
    have HC := Lib.hid ((clone_str o.cidrs c.A c.c w1 hr1.cr hs.cidrs).mono (R' := fun e w' => ∃ A' c', e = .returned (.slice A' o.cidrs.length c') ∧ Calls Try.prog 59 #[.slice A' o.cidrs.length c'] w' fun e w2 => e = .returned (.tuple #[]) ∧ Calls Try.prog 60 #[.slice A' o.cidrs.length c'] w2 fun e w3 =>
      ∃ (T : List ByteArray) (A : Option Addr) (c' : Nat), e = .returned (.slice A T.length c') ∧ TextsOf o T ∧ w3.ownsRow w.heap.size 9 1 (.slice A T.length c') T.length (T.flatMap cS) ∧ Below w.heap.size w w3) (by
        rintro e w' ⟨A', c', rfl, ho, hb⟩
        exact ⟨A', c', rfl, sorted_compact o o.cidrs (if_pos h1) hs.cidrs w w' A' c' (owns_mono ho b1.size) (G.bthen b1 hb)⟩))
    have d1 : decide (o.kind = 1) = true := decide_eq_true h1
    have e1 : (o.kind == 1) = true := by simpa using h1
    clear hr hs b1 hr1 h1 p1 hw1
    go_enter Try.func46, Try.ntmps46
    go_upto_region 2 with (fail)
    rw [← HW.out, ← hx]
    clear hx
    go_wp2_with (first | (go_at_call 30; refine HC.out.mono ?_; rintro e wa ⟨A', c', rfl, hS⟩; have HS := Lib.hid hS; clear hS) | (go_at_call 59; refine HS.out.mono ?_; rintro e wb ⟨rfl, hT⟩; have HT := Lib.hid hT; clear hT) | (go_at_call 60; refine HT.out.mono ?_; rintro e wc ⟨T, A2, c2, rfl, t1, t2, t3⟩))
    go_ret
    exact ⟨T, A2, c2, rfl, t1, t2, t3⟩
  · by_cases h2 : o.kind = 2
    · have k12 : w1.cell? ⟨x, 12, none⟩ = some (.slice i.A o.ips.length i.c) := by simp [World.cell?, p1, oc]
      have HC := Lib.hid ((clone_str o.ips i.A i.c w1 hr1.ir hs.ips).mono (R' := fun e w' => ∃ A' c', e = .returned (.slice A' o.ips.length c') ∧ Calls Try.prog 59 #[.slice A' o.ips.length c'] w' fun e w2 => e = .returned (.tuple #[]) ∧ Calls Try.prog 60 #[.slice A' o.ips.length c'] w2 fun e w3 =>
        ∃ (T : List ByteArray) (A : Option Addr) (c' : Nat), e = .returned (.slice A T.length c') ∧ TextsOf o T ∧ w3.ownsRow w.heap.size 9 1 (.slice A T.length c') T.length (T.flatMap cS) ∧ Below w.heap.size w w3) (by
          rintro e w' ⟨A', c', rfl, ho, hb⟩
          exact ⟨A', c', rfl, sorted_compact o o.ips ((if_neg h1).trans (if_pos h2)) hs.ips w w' A' c' (owns_mono ho b1.size) (G.bthen b1 hb)⟩))
      have e1 : (o.kind == 1) = false := by simpa using h1
      have e2 : (o.kind == 2) = true := by simpa using h2
      clear hr hs b1 hr1 h1 h2 p1 hw1
      go_enter Try.func46, Try.ntmps46
      go_upto_region 2 with (fail)
      rw [← HW.out, ← hx]
      clear hx
      go_wp2_with (first | (go_at_call 30; refine HC.out.mono ?_; rintro e wa ⟨A', c', rfl, hS⟩; have HS := Lib.hid hS; clear hS) | (go_at_call 59; refine HS.out.mono ?_; rintro e wb ⟨rfl, hT⟩; have HT := Lib.hid hT; clear hT) | (go_at_call 60; refine HT.out.mono ?_; rintro e wc ⟨T, A2, c2, rfl, t1, t2, t3⟩))
      go_ret
      exact ⟨T, A2, c2, rfl, t1, t2, t3⟩
    · have HS : Hid (Calls Try.prog 59 #[.slice none 0 0] w1 fun e w2 => e = .returned (.tuple #[]) ∧ Calls Try.prog 60 #[.slice none 0 0] w2 fun e w3 =>
        ∃ (T : List ByteArray) (A : Option Addr) (c' : Nat), e = .returned (.slice A T.length c') ∧ TextsOf o T ∧ w3.ownsRow w.heap.size 9 1 (.slice A T.length c') T.length (T.flatMap cS) ∧ Below w.heap.size w w3) :=
        Lib.hid (sorted_compact o [] ((if_neg h1).trans (if_neg h2)) (Nat.zero_le _) w w1 none 0 (G.owns_nil _ _ _ _) b1)
      have e1 : (o.kind == 1) = false := by simpa using h1
      have e2 : (o.kind == 2) = false := by simpa using h2
      clear hr hs b1 hr1 h1 h2 p1 hw1
      go_enter Try.func46, Try.ntmps46
      go_upto_region 2 with (fail)
      rw [← HW.out, ← hx]
      clear hx
      go_wp2_with (first | (go_at_call 59; refine HS.out.mono ?_; rintro e wb ⟨rfl, hT⟩; have HT := Lib.hid hT; clear hT) | (go_at_call 60; refine HT.out.mono ?_; rintro e wc ⟨T, A2, c2, rfl, t1, t2, t3⟩))
      go_ret
      exact ⟨T, A2, c2, rfl, t1, t2, t3⟩
end Go.Proofs.Ytmbmnldheilffaa
