/- The pile in memory: Len, Less, Swap. -/
import Derived.Test.YthmknlflgajnpaaHp1
namespace Go.Proofs.Ythmknlflgajnpaa
set_option linter.unusedVariables false
set_option linter.unusedSimpArgs false
open Go.RowKit
theorem size64 : (Try.prog.info? 64).map (·.size) = some 3 := by kernel_rfl
theorem ic_len (x : Item) : (ic x).length = 3 := rfl
theorem flat_ic (p : List Item) : (p.flatMap ic).length = p.length * 3 := by
  induction p with
  | nil => rfl
  | cons a p ih => rw [List.flatMap_cons, List.length_append, ih, ic_len, List.length_cons]; omega
/-- a pile lies in a block -/
structure PR (w : World) (g cap : Nat) (p : List Item) : Prop where
  is : ∃ rest : List Value, w.heap[g]? = some (.cells (p.flatMap ic ++ rest).toArray 64 (0, 0)) ∧ (p.flatMap ic ++ rest).length = cap * 3
  le : p.length ≤ cap
  mx : cap ≤ maxLen
theorem PR.of {w w1 : World} {g cap : Nat} {p : List Item} (h : PR w g cap p) (hk : w1.heap[g]? = w.heap[g]?) : PR w1 g cap p := by
  obtain ⟨⟨r, h1, h2⟩, h3, h4⟩ := h
  exact ⟨⟨r, hk.trans h1, h2⟩, h3, h4⟩
theorem PR.lt {w : World} {g cap : Nat} {p : List Item} (h : PR w g cap p) : g < w.heap.size := by
  obtain ⟨⟨r, h1, h2⟩, h3, h4⟩ := h
  exact (Array.getElem?_eq_some_iff.1 h1).1
theorem PR.below {w w1 : World} {g cap : Nat} {p : List Item} (h : PR w g cap p) (hb : Below w.heap.size w w1) : PR w1 g cap p := h.of (hb.block g h.lt)
theorem PR.own {w : World} {B g cap : Nat} {p : List Item} (h : PR w g cap p) (hB : B ≤ g) : w.ownsRow B 64 3 (.slice (some ⟨g, 0, none⟩) p.length cap) p.length (p.flatMap ic) := by
  obtain ⟨⟨r, h1, h2⟩, h3, h4⟩ := h
  refine ⟨flat_ic p, .inr ⟨g, cap, _, rfl, hB, h1, h3, h4, by rw [List.size_toArray]; exact h2, ?_⟩⟩
  rw [List.toList_toArray, ← flat_ic, List.take_left]
theorem PR.of_own {w : World} {B g cap n : Nat} {p : List Item} (h : w.ownsRow B 64 3 (.slice (some ⟨g, 0, none⟩) n cap) p.length (p.flatMap ic)) : PR w g cap p ∧ n = p.length ∧ B ≤ g := by
  obtain ⟨_, ⟨h0, _⟩ | ⟨g', cap', cur, hv, hB, h1, h2, h3, h4, h5⟩⟩ := h
  · cases h0
  · injection hv with e1 e2 e3
    injection e1 with e1
    injection e1 with e1
    subst e1; subst e3; subst e2
    have hc : cur.toList = p.flatMap ic ++ cur.toList.drop (p.length * 3) := by rw [← h5, List.take_append_drop]
    refine ⟨⟨⟨cur.toList.drop (p.length * 3), ?_, ?_⟩, h2, h3⟩, rfl, hB⟩
    · rw [← hc, Array.toArray_toList]; exact h1
    · rw [← hc, Array.length_toList]; exact h4
theorem flat_at3 (p : List Item) (k : Nat) (x : Item) (h : p[k]? = some x) (j : Nat) (hj : j < 3) : (p.flatMap ic)[k * 3 + j]? = (ic x)[j]? := by
  induction p generalizing k with
  | nil => simp at h
  | cons a p ih =>
    rw [List.flatMap_cons]
    cases k with
    | zero =>
      simp at h; subst h
      rw [Nat.zero_mul, Nat.zero_add, List.getElem?_append_left (by rw [ic_len]; exact hj)]
    | succ k =>
      rw [List.getElem?_append_right (by rw [ic_len]; omega), ic_len, show (k + 1) * 3 + j - 3 = k * 3 + j by omega]
      exact ih k (by simpa using h)
theorem PR.at {w : World} {g cap : Nat} {p : List Item} (h : PR w g cap p) {k : Nat} {x : Item} (hk : p[k]? = some x) : w.rangeAt g (k * 3) (ic x) := fun j v hj => by
  obtain ⟨⟨r, h1, h2⟩, h3, h4⟩ := h
  have hj3 : j < 3 := (List.getElem?_eq_some_iff.1 hj).1
  have hkl : k < p.length := (List.getElem?_eq_some_iff.1 hk).1
  have h5 := flat_at3 p k x hk j hj3
  simp only [World.cell?, h1]
  rw [List.getElem?_toArray, List.getElem?_append_left (by rw [flat_ic]; omega), h5]
  exact hj
theorem heap_setL (g : Nat) (T : TypeId) : ∀ (vs : List Value) (o : Nat) (w : World) (cs : List Value), w.heap[g]? = some (.cells cs.toArray T (0, 0)) → o + vs.length ≤ cs.length →
    (w.setCells g o vs).heap[g]? = some (.cells (cs.take o ++ vs ++ cs.drop (o + vs.length)).toArray T (0, 0))
  | [], o, w, cs, h, _ => by
    show w.heap[g]? = _
    rw [List.append_nil, List.length_nil, Nat.add_zero, List.take_append_drop]; exact h
  | v :: r, o, w, cs, h, hl => by
    have h1 : (w.setCell ⟨g, o, none⟩ v).heap[g]? = some (.cells (cs.set o v).toArray T (0, 0)) := by
      have := heap_setCell_same w g o cs.toArray T v h
      rw [List.setIfInBounds_toArray] at this
      exact this
    have hl2 : o + 1 + r.length ≤ (cs.set o v).length := by rw [List.length_set]; simp at hl; omega
    have := heap_setL g T r (o + 1) (w.setCell ⟨g, o, none⟩ v) (cs.set o v) h1 hl2
    refine this.trans ?_
    congr 3
    simp only [List.length_cons] at hl ⊢
    have ho : o < cs.length := by omega
    rw [List.take_add_one, List.getElem?_set_self ho, List.take_set_of_le (Nat.le_refl o), List.drop_set_of_lt (by omega)]
    simp [Nat.add_assoc, Nat.add_comm 1]
theorem heap_setL_other (g k : Nat) (hk : k ≠ g) : ∀ (vs : List Value) (o : Nat) (w : World), (w.setCells g o vs).heap[k]? = w.heap[k]?
  | [], _, _ => rfl
  | v :: r, o, w => (heap_setL_other g k hk r (o + 1) _).trans (Below.heap_setCell _ _ _ _ hk)
theorem grown_set (w : World) (r i : Nat) (v : Value) : w.grownBy (w.setCell ⟨r, i, none⟩ v) (some r) :=
  ⟨rfl, rfl, rfl, by simp, fun j _ hj => Below.heap_setCell _ _ _ _ (fun e => hj (e ▸ rfl))⟩
theorem grown_draw0 (w : World) (g : Nat) : w.grownBy w.drew (some g) := ⟨rfl, rfl, rfl, Nat.le_refl _, fun _ _ _ => rfl⟩
theorem ica_one (x : Item) : (ica x).all (·.oneCell') = true := by simp [ica, Value.oneCell']
theorem grown_setL (g : Nat) : ∀ (vs : List Value) (o : Nat) (w : World), w.grownBy (w.setCells g o vs) (some g)
  | [], _, w => ⟨rfl, rfl, rfl, Nat.le_refl _, fun _ _ _ => rfl⟩
  | v :: r, o, w => (grown_set w g o v).trans (grown_setL g r (o + 1) _)
theorem flat_set : ∀ (p : List Item) (k : Nat) (x : Item), k < p.length → (p.set k x).flatMap ic = (p.flatMap ic).take (k * 3) ++ ic x ++ (p.flatMap ic).drop (k * 3 + 3)
  | [], k, x, h => by simp at h
  | a :: p, 0, x, _ => by
    rw [List.set_cons_zero, List.flatMap_cons, List.flatMap_cons]
    rfl
  | a :: p, k + 1, x, h => by
    rw [List.set_cons_succ, List.flatMap_cons, List.flatMap_cons, flat_set p k x (by simpa using h)]
    have e1 : (k + 1) * 3 = (ic a).length + k * 3 := by rw [ic_len]; omega
    have e2 : (k + 1) * 3 + 3 = (ic a).length + (k * 3 + 3) := by rw [ic_len]; omega
    rw [e2, e1, List.take_length_add_append, List.drop_length_add_append]
    simp only [List.append_assoc]
theorem PR.set {w : World} {g cap : Nat} {p : List Item} (h : PR w g cap p) {k : Nat} (x : Item) (hk : k < p.length) : PR (w.setCells g (k * 3) (ic x)) g cap (p.set k x) := by
  obtain ⟨⟨r, h1, h2⟩, h3, h4⟩ := h
  have hz := flat_ic p
  have hl : k * 3 + (ic x).length ≤ (p.flatMap ic ++ r).length := by rw [List.length_append, ic_len]; omega
  have := heap_setL g 64 (ic x) (k * 3) w (p.flatMap ic ++ r) h1 hl
  have e : (p.flatMap ic ++ r).take (k * 3) ++ ic x ++ (p.flatMap ic ++ r).drop (k * 3 + (ic x).length) = (p.set k x).flatMap ic ++ r := by
    rw [flat_set p k x hk, List.take_append_of_le_length (by omega), ic_len, List.drop_append_of_le_length (by omega)]
    simp only [List.append_assoc]
  rw [e] at this
  refine ⟨⟨r, this, ?_⟩, by rw [List.length_set]; exact h3, h4⟩
  rw [← e]
  simp only [List.length_append, List.length_take, List.length_drop, ic_len] at h2 hl ⊢
  omega
theorem PR.there {w : World} {g cap : Nat} {p : List Item} (h : PR w g cap p) {k : Nat} (hk : k < p.length) : w.there g (k * 3) 3 := fun j hj => by
  obtain ⟨x, hx⟩ : ∃ x, p[k]? = some x := ⟨_, List.getElem?_eq_getElem hk⟩
  have h1 := h.at hx
  obtain ⟨⟨r, h2, _⟩, _, _⟩ := h
  have : j < (ic x).length := hj
  refine ⟨?_, by simp only [World.frozen?, h2]; rfl⟩
  rw [h1 j _ (List.getElem?_eq_getElem this)]
  rfl
theorem PR.drew {w : World} {g cap : Nat} {p : List Item} (h : PR w g cap p) : PR w.drew g cap p := h.of rfl
set_option maxRecDepth 100000 in
theorem plen_any (A : Option Addr) (n cap : Nat) (w : World) : Calls Try.prog 58 #[.slice A n cap] w fun e w' => e = .returned (.int .i64 n) ∧ w' = w := by
  go_enter Try.func58, Try.ntmps58
  go_wp2
  go_ret
  exact ⟨rfl, rfl⟩
set_option maxRecDepth 100000 in
set_option maxHeartbeats 2000000 in
theorem pless_any (p : List Item) (g cap i j : Nat) (x y : Item) (hi : p[i]? = some x) (hj : p[j]? = some y) (w : World) (hp : PR w g cap p) :
    Calls Try.prog 59 #[.slice (some ⟨g, 0, none⟩) p.length cap, .int .i64 i, .int .i64 j] w fun e w' => e = .returned (.bool (lessB x y)) ∧ Below w.heap.size w w' := by
  have hil : (i : Int) < p.length := by have := (List.getElem?_eq_some_iff.1 hi).1; omega
  have hjl : (j : Int) < p.length := by have := (List.getElem?_eq_some_iff.1 hj).1; omega
  have R1 := Lib.hid (hp.at hi)
  have R2 := Lib.hid (hp.at hj)
  clear hi hj hp
  go_enter Try.func59, Try.ntmps59
  go_upto_region 1 with (fail)
  refine wp_region_held_drew (S := fun V => Below w.heap.size w V) (by kernel_rfl) (G.bdrew (Below.refl _ _)) (fun hS0 => ?_)
  refine tk 0 7 (.slice (some ⟨g, 0, none⟩) p.length cap) ?_
  try simp only [s1, s2, s3]
  refine tk 1 8 (.int .i64 i) ?_
  try simp only [s1, s2, s3]
  refine tk 2 9 (.pointer (some ⟨g, i * 3, none⟩)) ?_
  try simp only [s1, s2, s3]
  refine tk 3 10 (iv x) ?_ (hv := by exact load_mid_yields 64 (.tmp 9) rfl g (i * 3) rfl (ic x) _ (fun V hV => range_below R1.out hV) Try.underlying64 rfl size64)
  try simp only [s1, s2, s3]
  refine tk 4 11 (.slice (some ⟨g, 0, none⟩) p.length cap) ?_
  try simp only [s1, s2, s3]
  refine tk 5 12 (.int .i64 j) ?_
  try simp only [s1, s2, s3]
  refine tk 6 13 (.pointer (some ⟨g, j * 3, none⟩)) ?_
  try simp only [s1, s2, s3]
  refine tk 7 14 (iv y) ?_ (hv := by exact load_mid_yields 64 (.tmp 13) rfl g (j * 3) rfl (ic y) _ (fun V hV => range_below R2.out hV) Try.underlying64 rfl size64)
  try simp only [s1, s2, s3]
  refine wpAnyH_ready (rs := [8]) (by kernel_rfl) (by simp) ?_
  refine AllReadyH.cons rfl (fun K hK => ?_) ?_
  · rw [if_pos (by rfl)]
    go_simp
    go_at_call 61
    refine (less_any x y _).mono ?_
    rintro e v1 ⟨rfl, hb1⟩
    dsimp only
    refine hK.out _ _ (G.bthen (by assumption) hb1) (fun hHeld => ?_)
    clear hK K
    try simp only [Act.put, s1, s2, s3]
    refine tk 9 6 (.bool (lessB x y)) ?_
    try simp only [s1, s2, s3]
    refine wpAnyH_done (by kernel_rfl) ?_ _
    have HE := Lib.hid hHeld
    repeat clear hHeld
    clear hS0
    go_wp2
    go_ret
    exact ⟨rfl, HE.out⟩
  exact AllReadyH.nil
set_option maxRecDepth 100000 in
set_option maxHeartbeats 4000000 in
theorem pswap_any (p : List Item) (g cap i j : Nat) (x y : Item) (hi : p[i]? = some x) (hj : p[j]? = some y) (w : World) (hp : PR w g cap p) :
    Calls Try.prog 60 #[.slice (some ⟨g, 0, none⟩) p.length cap, .int .i64 i, .int .i64 j] w fun e w' => e = .returned (.tuple #[]) ∧ PR w' g cap ((p.set i y).set j x) ∧ w.grownBy w' (some g) := by
  have hin : i < p.length := (List.getElem?_eq_some_iff.1 hi).1
  have hjn : j < p.length := (List.getElem?_eq_some_iff.1 hj).1
  have hil : (i : Int) < p.length := by omega
  have hjl : (j : Int) < p.length := by omega
  have R1 := Lib.hid (hp.at hi)
  have R2 := Lib.hid (hp.at hj)
  have T1 := Lib.hid (hp.there hin)
  have HP := Lib.hid hp
  have q1 := Lib.hid (hp.drew.set y hin)
  have T2 := Lib.hid (q1.out.there (k := j) (by rw [List.length_set]; exact hjn))
  have q2 := Lib.hid (q1.out.set (k := j) x (by rw [List.length_set]; exact hjn))
  clear hi hj hp hin hjn
  go_enter Try.func60, Try.ntmps60
  refine wp_region_held_drew (S := fun _ => True) (by kernel_rfl) trivial (fun hS0 => ?_)
  refine tk 0 6 (.slice (some ⟨g, 0, none⟩) p.length cap) ?_
  try simp only [s1, s2, s3]
  refine tk 1 7 (.int .i64 i) ?_
  try simp only [s1, s2, s3]
  refine tk 2 8 (.slice (some ⟨g, 0, none⟩) p.length cap) ?_
  try simp only [s1, s2, s3]
  refine tk 3 9 (.int .i64 j) ?_
  try simp only [s1, s2, s3]
  refine tk 4 10 (.slice (some ⟨g, 0, none⟩) p.length cap) ?_
  try simp only [s1, s2, s3]
  refine tk 5 11 (.int .i64 j) ?_
  try simp only [s1, s2, s3]
  refine tk 6 12 (.pointer (some ⟨g, j * 3, none⟩)) ?_
  try simp only [s1, s2, s3]
  refine tk 8 14 (.slice (some ⟨g, 0, none⟩) p.length cap) ?_
  try simp only [s1, s2, s3]
  refine tk 9 15 (.int .i64 i) ?_
  try simp only [s1, s2, s3]
  refine tk 10 16 (.pointer (some ⟨g, i * 3, none⟩)) ?_
  try simp only [s1, s2, s3]
  refine wpAnyH_ready (rs := [7, 11]) (by kernel_rfl) (by simp) ?_
  refine AllReadyH.cons rfl (fun K hK => ?_) ?_
  · rw [if_pos (by rfl)]
    refine wp_load_mid 64 (.tmp 12) (by rfl) g (j * 3) (by (go_simp; try rfl)) (ic y) _ (World.rangeAt_drew _ _ _ _ |>.2 R2.out) Try.underlying64 rfl size64 ?_
    refine hK.out _ _ (trivial) (fun hHeld => ?_)
    clear hK K
    try simp only [Act.put, s1, s2, s3]
    refine wpAnyH_ready (rs := [11]) (by kernel_rfl) (by simp) ?_
    refine AllReadyH.cons rfl (fun K hK => ?_) ?_
    · rw [if_pos (by rfl)]
      refine wp_load_mid 64 (.tmp 16) (by rfl) g (i * 3) (by (go_simp; try rfl)) (ic x) _ (World.rangeAt_drew _ _ _ _ |>.2 R1.out) Try.underlying64 rfl size64 ?_
      refine hK.out _ _ (trivial) (fun hHeld => ?_)
      clear hK K
      try simp only [Act.put, s1, s2, s3]
      refine tk 12 18 (.pointer (some ⟨g, i * 3, none⟩)) ?_
      try simp only [s1, s2, s3]
      refine wpAnyH_ready (rs := [13]) (by kernel_rfl) (by simp) ?_
      refine AllReadyH.cons rfl (fun K hK => ?_) ?_
      · rw [if_pos (by rfl)]
        refine wp_store_mid 64 (.tmp 18) (.tmp 13) (by rfl) g (i * 3) (ica y) (by (go_simp; try rfl)) (by (go_simp; try rfl)) (World.there_drew _ _ _ _ |>.2 T1.out) size64 (ica_one y) ?_
        refine hK.out _ _ (trivial) (fun hHeld => ?_)
        clear hK K
        try simp only [Act.put, s1, s2, s3]
        refine tk 14 19 (.pointer (some ⟨g, j * 3, none⟩)) ?_
        try simp only [s1, s2, s3]
        refine wpAnyH_ready (rs := [15]) (by kernel_rfl) (by simp) ?_
        refine AllReadyH.cons rfl (fun K hK => ?_) ?_
        · rw [if_pos (by rfl)]
          refine wp_store_mid 64 (.tmp 19) (.tmp 17) (by rfl) g (j * 3) (ica x) (by (go_simp; try rfl)) (by (go_simp; try rfl)) T2.out size64 (ica_one x) ?_
          refine hK.out _ _ (trivial) (fun hHeld => ?_)
          clear hK K
          try simp only [Act.put, s1, s2, s3]
          refine wpAnyH_done (by kernel_rfl) ?_ _
          repeat clear hHeld
          go_wp2
          go_end0
          exact ⟨rfl, q2.out, (grown_draw0 w g).trans ((grown_setL g _ _ _).trans (grown_setL g _ _ _))⟩
        exact AllReadyH.nil
      exact AllReadyH.nil
    exact AllReadyH.nil
  refine AllReadyH.cons rfl (fun K hK => ?_) ?_
  · rw [if_pos (by rfl)]
    refine wp_load_mid 64 (.tmp 16) (by rfl) g (i * 3) (by (go_simp; try rfl)) (ic x) _ (World.rangeAt_drew _ _ _ _ |>.2 R1.out) Try.underlying64 rfl size64 ?_
    refine hK.out _ _ (trivial) (fun hHeld => ?_)
    clear hK K
    try simp only [Act.put, s1, s2, s3]
    refine wpAnyH_ready (rs := [7]) (by kernel_rfl) (by simp) ?_
    refine AllReadyH.cons rfl (fun K hK => ?_) ?_
    · rw [if_pos (by rfl)]
      refine wp_load_mid 64 (.tmp 12) (by rfl) g (j * 3) (by (go_simp; try rfl)) (ic y) _ (World.rangeAt_drew _ _ _ _ |>.2 R2.out) Try.underlying64 rfl size64 ?_
      refine hK.out _ _ (trivial) (fun hHeld => ?_)
      clear hK K
      try simp only [Act.put, s1, s2, s3]
      refine tk 12 18 (.pointer (some ⟨g, i * 3, none⟩)) ?_
      try simp only [s1, s2, s3]
      refine wpAnyH_ready (rs := [13]) (by kernel_rfl) (by simp) ?_
      refine AllReadyH.cons rfl (fun K hK => ?_) ?_
      · rw [if_pos (by rfl)]
        refine wp_store_mid 64 (.tmp 18) (.tmp 13) (by rfl) g (i * 3) (ica y) (by (go_simp; try rfl)) (by (go_simp; try rfl)) (World.there_drew _ _ _ _ |>.2 T1.out) size64 (ica_one y) ?_
        refine hK.out _ _ (trivial) (fun hHeld => ?_)
        clear hK K
        try simp only [Act.put, s1, s2, s3]
        refine tk 14 19 (.pointer (some ⟨g, j * 3, none⟩)) ?_
        try simp only [s1, s2, s3]
        refine wpAnyH_ready (rs := [15]) (by kernel_rfl) (by simp) ?_
        refine AllReadyH.cons rfl (fun K hK => ?_) ?_
        · rw [if_pos (by rfl)]
          refine wp_store_mid 64 (.tmp 19) (.tmp 17) (by rfl) g (j * 3) (ica x) (by (go_simp; try rfl)) (by (go_simp; try rfl)) T2.out size64 (ica_one x) ?_
          refine hK.out _ _ (trivial) (fun hHeld => ?_)
          clear hK K
          try simp only [Act.put, s1, s2, s3]
          refine wpAnyH_done (by kernel_rfl) ?_ _
          repeat clear hHeld
          go_wp2
          go_end0
          exact ⟨rfl, q2.out, (grown_draw0 w g).trans ((grown_setL g _ _ _).trans (grown_setL g _ _ _))⟩
        exact AllReadyH.nil
      exact AllReadyH.nil
    exact AllReadyH.nil
  exact AllReadyH.nil
end Go.Proofs.Ythmknlflgajnpaa
