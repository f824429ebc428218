/- What Open finds, plain: frames and a beginning of one, the newest generation, its segments, the rest removed. No walk. -/
import Derived.Test.YtdmjbdecemajpaaDoorWkBm
namespace Go.Proofs.YtdmjbdecemajpaaDoor.D
set_option linter.unusedVariables false
set_option linter.unusedSimpArgs false
open Go.RowKit
theorem ext_cat (a b : ByteArray) (y : Nat) : (a ++ b).extract 0 (a.size + y) = a ++ b.extract 0 y := by
  apply BL_inj
  rw [BL_extract, BL_append, BL_append, BL_extract, List.drop_zero, List.drop_zero, List.take_append, BL_length]
  rw [List.take_of_length_le (by rw [BL_length]; omega), show a.size + y - a.size = y by omega]
theorem packs_append (R S : List ByteArray) : packs (R ++ S) = packs R ++ packs S := by
  induction R with
  | nil => rw [List.nil_append, packs, empty_append]
  | cons b R ih => rw [List.cons_append, packs, packs, ih, append_assoc3]
theorem packs_one (b : ByteArray) : packs [b] = frm b := by rw [packs, packs, append_empty]
/-- a beginning of frames: some of them, and no whole one behind -/
theorem packs_cut : ∀ (R : List ByteArray), (∀ b ∈ R, b.size ≤ 65536) → ∀ (y : Nat), y ≤ (packs R).size →
    ∃ j r, j ≤ R.length ∧ (packs R).extract 0 y = packs (R.take j) ++ r ∧ fOk r = false ∧ ∀ q, q ≤ R.length → (packs (R.take q)).size ≤ y → q ≤ j
  | [], _, y, hy => ⟨0, ⟨#[]⟩, Nat.le_refl _, by apply ByteArray.ext; simp [packs], fOk_empty, fun q hq _ => hq⟩
  | b :: R, hb, y, hy => by
    have hbs := hb b List.mem_cons_self
    rw [packs] at hy ⊢
    by_cases h : y < (frm b).size
    · refine ⟨0, (frm b).extract 0 y, Nat.zero_le _, ?_, torn b hbs y h, fun q hq hs => ?_⟩
      · rw [ext_app _ _ _ (by omega), List.take_zero, packs, empty_append]
      · cases q with
        | zero => exact Nat.le_refl _
        | succ q =>
          rw [List.take_succ_cons, packs, ByteArray.size_append] at hs
          omega
    · obtain ⟨z, rfl⟩ : ∃ z, y = (frm b).size + z := ⟨y - (frm b).size, by omega⟩
      rw [ByteArray.size_append] at hy
      obtain ⟨j, r, h1, h2, h3, h4⟩ := packs_cut R (fun x hx => hb x (List.mem_cons_of_mem _ hx)) z (by omega)
      refine ⟨j + 1, r, by simpa using h1, ?_, h3, fun q hq hs => ?_⟩
      · rw [ext_cat, h2, List.take_succ_cons, packs, append_assoc3]
      · cases q with
        | zero => exact Nat.zero_le _
        | succ q =>
          rw [List.take_succ_cons, packs, ByteArray.size_append] at hs
          have := h4 q (by simpa using hq) (by omega)
          omega
/-- what Scan tells of a beginning of frames -/
structure Cut (R : List ByteArray) (p : ByteArray) (j : Nat) : Prop where
  le : j ≤ R.length
  scan : scan p = (R.take j, (packs (R.take j)).size)
  good : p.extract 0 (packs (R.take j)).size = packs (R.take j)
  fits : (packs (R.take j)).size ≤ p.size
theorem cut_of (R : List ByteArray) (hR : ∀ b ∈ R, b.size ≤ 65536) (y : Nat) (hy : y ≤ (packs R).size) : ∃ j, Cut R ((packs R).extract 0 y) j ∧ ∀ q, q ≤ R.length → (packs (R.take q)).size ≤ y → q ≤ j := by
  obtain ⟨j, r, h1, h2, h3, h4⟩ := packs_cut R hR y hy
  refine ⟨j, ⟨h1, ?_, ?_, ?_⟩, h4⟩
  · rw [h2]; exact scan_packs _ (fun b hb => hR b (List.mem_of_mem_take hb)) r h3
  · rw [h2, ext_app _ _ _ (Nat.le_refl _), ext_self]
  · rw [h2, ByteArray.size_append]; omega
theorem cut_all (R : List ByteArray) (hR : ∀ b ∈ R, b.size ≤ 65536) : Cut R (packs R) R.length := by
  refine ⟨Nat.le_refl _, ?_, ?_, ?_⟩
  · rw [List.take_length]; exact scan_all R hR
  · rw [List.take_length, ext_self]
  · rw [List.take_length]; exact Nat.le_refl _
theorem whole_cut (S : ByteArray) (hS : S.size ≤ 65536) (y : Nat) (hy : y < (frm S).size) : whole ((frm S).extract 0 y) = false := by
  unfold whole
  rw [torn S hS y hy, Bool.false_and]
/-! ### the newest one -/
theorem keys_lt {s : DS} (h : M.Nodup s.files) : s.keys.Pairwise (· < ·) := by
  have h1 : s.keys.Pairwise (fun a b => leI a b = true) := List.pairwise_mergeSort (fun a b c h1 h2 => by simp [leI] at *; omega) (fun a b => by simp [leI]; omega) _
  have h2 : s.keys.Pairwise (· ≠ ·) := keys_nd h
  refine (h1.and h2).imp ?_
  rintro a b ⟨h3, h4⟩
  have : a ≤ b := by simpa [leI] using h3
  omega
theorem newP_of (s : DS) (no : Int) (h1 : no % 100 = 0) (h2 : no ≤ 999900) (h3 : whole (s.fl no).data = true) : ∀ (l : List Int), l.Pairwise (· > ·) → no ∈ l → (∀ a ∈ l, no < a → a % 100 ≠ 0 ∨ whole (s.fl a).data = false) → newP s l = some (no / 100, fBody (s.fl no).data)
  | a :: l, hp, hm, hs => by
    rw [List.pairwise_cons] at hp
    rw [newP]
    by_cases e : a = no
    · subst e
      rw [if_neg (by omega), if_pos h3]
    · have hm' : no ∈ l := (List.mem_cons.1 hm).resolve_left (fun h => e h.symm)
      have hlt : no < a := hp.1 no hm'
      have ih := newP_of s no h1 h2 h3 l hp.2 hm' (fun b hb => hs b (List.mem_cons_of_mem _ hb))
      split
      · exact ih
      · rename_i hn
        rcases hs a List.mem_cons_self hlt with h | h
        · exact absurd (.inl h) hn
        · rw [h, if_neg (by decide)]; exact ih
theorem newest_of {s : DS} {k : Nat} (hO : Okk s k) (no : Int) (h1 : no % 100 = 0) (h2 : no ≤ 999900) (h3 : whole (s.fl no).data = true) (h4 : (M.get s.files no).isSome = true) (h5 : ∀ a, (M.get s.files a).isSome = true → no < a → a % 100 ≠ 0 ∨ whole (s.fl a).data = false) : newP s s.keys.reverse = some (no / 100, fBody (s.fl no).data) :=
  newP_of s no h1 h2 h3 _ (by rw [List.pairwise_reverse]; exact keys_lt hO.nd) (List.mem_reverse.2 ((keys_mem no).2 h4)) (fun a ha hlt => h5 a ((keys_mem a).1 (List.mem_reverse.1 ha)) hlt)
/-! ### calls on a disk that is on and bears no fuse -/
structure Live (s : DS) : Prop where
  on : s.off = false
  fuse : s.fuse = 0
theorem step_live {s : DS} (h : Live s) : stepE s = 0 ∧ Live (stepS s) := by
  have hf : ¬ s.fuse = 1 := by rw [h.fuse]; decide
  unfold stepE stepS
  rw [if_neg hf, if_neg hf]
  refine ⟨rfl, h.on, ?_⟩
  show max 0 (s.fuse - 1) = 0
  rw [h.fuse]; decide
theorem may_live {s : DS} {no : Int} (h : Live s) (hn : 1 ≤ no ∧ no ≤ 1000000) (hs : (M.get s.files no).isSome = true) (b : Bool) : mayE s no b = 0 := by
  unfold mayE
  rw [h.on, if_neg (by decide), if_neg (by omega), if_neg (by rw [hs]; rintro ⟨_, h⟩; cases h)]
theorem rem_live {s : DS} {no : Int} (h : Live s) (hn : 1 ≤ no ∧ no ≤ 1000000) (hs : (M.get s.files no).isSome = true) : remE s no = 0 ∧ Live (remS s no) ∧ (remS s no).files = M.del s.files no := by
  have h0 := may_live h hn hs true
  have hst := step_live h
  unfold remE synE remS
  rw [if_neg (by rw [h0]; decide), if_neg (by rw [h0]; decide), if_neg (by rw [hst.1]; decide)]
  exact ⟨hst.1, ⟨hst.2.on, hst.2.fuse⟩, by show M.del (stepS s).files no = _; rw [stepS_files]⟩
theorem syn_live {s : DS} {no : Int} (h : Live s) (hn : 1 ≤ no ∧ no ≤ 1000000) (hs : (M.get s.files no).isSome = true) : synE s no = 0 ∧ Live (synS s no) ∧ (synS s no).files = M.put s.files no ⟨(s.fl no).data, (s.fl no).data.size⟩ := by
  have h0 := may_live h hn hs true
  have hst := step_live h
  unfold synE synS
  rw [if_neg (by rw [h0]; decide), if_neg (by rw [h0]; decide), if_neg (by rw [hst.1]; decide)]
  exact ⟨hst.1, ⟨hst.2.on, hst.2.fuse⟩, by show M.put (stepS s).files no _ = _; rw [stepS_files]⟩
theorem tri_live {s : DS} {no : Int} (z : Nat) (h : Live s) (hn : 1 ≤ no ∧ no ≤ 1000000) (hs : (M.get s.files no).isSome = true) (hz : z ≤ (s.fl no).data.size) : triE s no z = 0 ∧ Live (triS s no z) ∧ (triS s no z).files = M.put s.files no ⟨(s.fl no).data.extract 0 z, min (s.fl no).safe z⟩ := by
  have h0 := may_live h hn hs true
  have hst := step_live h
  have hz' : ¬ ((z : Int) < 0 ∨ ((s.fl no).data.size : Int) < z) := by omega
  unfold triE triS
  rw [if_neg (by rw [h0]; decide), if_neg hz', if_neg (by rw [h0]; decide), if_neg hz', if_neg (by rw [hst.1]; decide)]
  exact ⟨hst.1, ⟨hst.2.on, hst.2.fuse⟩, by show M.put (stepS s).files no _ = _; rw [stepS_files]; rfl⟩
theorem remOut_live (g n : Int) : ∀ (l : List Int) (s : DS), Live s → M.Nodup s.files → l.Nodup → (∀ a ∈ l, (1 ≤ a ∧ a ≤ 1000000) ∧ (M.get s.files a).isSome = true) →
    (remOut g n l s).1 = 0 ∧ Live (remOut g n l s).2 ∧ ∀ a, M.get (remOut g n l s).2.files a = if a ∈ l ∧ ¬ (g * 100 ≤ a ∧ a ≤ g * 100 + n) then none else M.get s.files a
  | [], s, h, _, _, _ => ⟨rfl, h, fun a => by rw [if_neg (fun h => by simp at h)]; rfl⟩
  | no :: l, s, h, hN, hl, hm => by
    rw [List.nodup_cons] at hl
    rw [remOut]
    by_cases hr : g * 100 ≤ no ∧ no ≤ g * 100 + n
    · rw [if_pos hr]
      obtain ⟨h1, h2, h3⟩ := remOut_live g n l s h hN hl.2 (fun a ha => hm a (List.mem_cons_of_mem _ ha))
      refine ⟨h1, h2, fun a => ?_⟩
      rw [h3]
      by_cases e : a = no
      · subst e
        rw [if_neg (fun h => h.2 hr), if_neg (fun h => h.2 hr)]
      · have : (a ∈ no :: l) ↔ a ∈ l := by simp [e]
        simp only [this]
    · rw [if_neg hr]
      obtain ⟨hn, hs⟩ := hm no List.mem_cons_self
      obtain ⟨r1, r2, r3⟩ := rem_live h hn hs
      rw [if_neg (by rw [r1]; decide)]
      obtain ⟨h1, h2, h3⟩ := remOut_live g n l (remS s no) r2 (by rw [r3]; exact M.nodup_del hN no) hl.2 (fun a ha => ⟨(hm a (List.mem_cons_of_mem _ ha)).1, by
        have hne : a ≠ no := fun e => hl.1 (e ▸ ha)
        rw [r3, M.get_del hN, if_neg hne]
        exact (hm a (List.mem_cons_of_mem _ ha)).2⟩)
      refine ⟨h1, h2, fun a => ?_⟩
      rw [h3, r3, M.get_del hN]
      by_cases e : a = no
      · subst e
        rw [if_neg (fun h => hl.1 h.1), if_pos rfl, if_pos ⟨List.mem_cons_self, hr⟩]
      · have : (a ∈ no :: l) ↔ a ∈ l := by simp [e]
        rw [if_neg e]
        simp only [this]
/-- a disk's files, looked up -/
theorem fl_of {s : DS} {no : Int} {f : Fl} (h : M.get s.files no = some f) : s.fl no = f := by unfold DS.fl; rw [h]; rfl
/-! ### the segments -/
/-- the records of the segments ahead of the i-th -/
def cat (D : Nat → List ByteArray) (i : Nat) : List ByteArray := (List.range i).flatMap D
theorem cat_succ (D : Nat → List ByteArray) (i : Nat) : cat D (i + 1) = cat D i ++ D i := by
  unfold cat
  rw [List.range_succ, List.flatMap_append]; simp
theorem cat_congr {D D' : Nat → List ByteArray} {i : Nat} (h : ∀ j, j < i → D' j = D j) : cat D' i = cat D i := by
  induction i with
  | zero => rfl
  | succ i ih => rw [cat_succ, cat_succ, ih (fun j hj => h j (by omega)), h i (by omega)]
theorem segs_of (s : DS) (g : Int) (n : Nat) (D : Nat → List ByteArray) (p : ByteArray) (j : Nat) (hn : n + 1 ≤ 99) (hD : ∀ i, i < n → ∀ b ∈ D i, b.size ≤ 65536) (hseg : ∀ i, i < n → ∃ z, M.get s.files (g * 100 + (i + 1)) = some ⟨packs (D i), z⟩)
    (hlast : ∃ z, M.get s.files (g * 100 + (n + 1)) = some ⟨p, z⟩) (hc : Cut (D n) p j) (hend : n + 1 < 99 → (M.get s.files (g * 100 + (n + 1 + 1))).isSome = false) :
    ∀ d i x, i + d = n → x.recs = cat D i → segP s g (99 - i) (i + 1) x = ⟨cat D n ++ (D n).take j, n + 1, (packs ((D n).take j)).size⟩
  | 0, i, x, hi, hx => by
    obtain rfl : i = n := by omega
    obtain ⟨z, hz⟩ := hlast
    have hf := fl_of hz
    rw [show 99 - i = (98 - i) + 1 by omega, segP, if_pos (by rw [hz]; rfl), hf]
    show (if (scan p).2 < p.size then (⟨x.recs ++ (scan p).1, _, _⟩ : Sg) else _) = _
    rw [hc.scan, hx]
    split
    · rfl
    · cases h98 : 98 - i with
      | zero => rfl
      | succ m =>
        rw [segP, if_neg (by rw [show (i : Int) + 1 + 1 = i + 1 + 1 from rfl, hend (by omega)]; decide)]
  | d + 1, i, x, hi, hx => by
    obtain ⟨z, hz⟩ := hseg i (by omega)
    have hf := fl_of hz
    have hsc := scan_all (D i) (hD i (by omega))
    rw [show 99 - i = (99 - (i + 1)) + 1 by omega, segP, if_pos (by rw [hz]; rfl), hf]
    show (if (scan (packs (D i))).2 < (packs (D i)).size then (⟨x.recs ++ (scan (packs (D i))).1, _, _⟩ : Sg) else _) = _
    rw [hsc, if_neg (Nat.lt_irrefl _)]
    have := segs_of s g n D p j hn hD hseg hlast hc hend d (i + 1) ⟨x.recs ++ D i, (i : Int) + 1, (packs (D i)).size⟩ (by omega) (by show x.recs ++ D i = _; rw [cat_succ, hx])
    simpa using this
end Go.Proofs.YtdmjbdecemajpaaDoor.D
namespace Go.Proofs.YtdmjbdecemajpaaDoor.D
set_option linter.unusedVariables false
set_option linter.unusedSimpArgs false
open Go.RowKit
theorem packs_take_le (R : List ByteArray) (j : Nat) : (packs (R.take j)).size ≤ (packs R).size := by
  conv => rhs; rw [← List.take_append_drop j R, packs_append, ByteArray.size_append]
  omega
/-- a generation's files: its text, the segments ahead of the last one safe, of the last one's records q -/
structure Old (s : DS) (g : Int) (T : ByteArray) (n : Nat) (D : Nat → List ByteArray) (q : Nat) : Prop where
  gr : 1 ≤ g ∧ g ≤ 9999
  tt : T.size ≤ 300
  nn : n ≤ 99
  sm : ∀ i, i < n → ∀ b ∈ D i, b.size ≤ 300
  ps : ∀ i, i < n → (packs (D i)).size ≤ 1000
  hd : M.get s.files (g * 100) = some ⟨frm T, (frm T).size⟩
  full : ∀ i, i + 1 < n → M.get s.files (g * 100 + (i + 1)) = some ⟨packs (D i), (packs (D i)).size⟩
  last : ∀ N, n = N + 1 → M.get s.files (g * 100 + (N + 1)) = some ⟨packs (D N), (packs ((D N).take q)).size⟩ ∧ q ≤ (D N).length
  zero : n = 0 → q = 0
/-- no other files, or (x) one of the next generation -/
def Only (s : DS) (g : Int) (n : Nat) (x : Bool) : Prop := ∀ a, (M.get s.files a).isSome = true → (g * 100 ≤ a ∧ a ≤ g * 100 + n) ∨ (x = true ∧ a = (g + 1) * 100)
def upd (D : Nat → List ByteArray) (N : Nat) (R : List ByteArray) : Nat → List ByteArray := fun i => if i = N then R else D i
theorem upd_at (D : Nat → List ByteArray) (N : Nat) (R : List ByteArray) : upd D N R N = R := if_pos rfl
theorem upd_off (D : Nat → List ByteArray) {N i : Nat} (R : List ByteArray) (h : i ≠ N) : upd D N R i = D i := if_neg h
theorem cat_upd (D : Nat → List ByteArray) (N : Nat) (R : List ByteArray) : cat (upd D N R) N = cat D N := cat_congr fun j hj => upd_off D R (by omega)
theorem tid_live {s : DS} {no : Int} {p P : ByteArray} {z good : Nat} (h : Live s) (hn : 1 ≤ no ∧ no ≤ 1000000) (hf : M.get s.files no = some ⟨p, z⟩) (hg : good ≤ p.size) (hP : p.extract 0 good = P) :
    tidE s no good = 0 ∧ Live (tidS s no good) ∧ ∀ a, M.get (tidS s no good).files a = if a = no then some ⟨P, P.size⟩ else M.get s.files a := by
  have hfl := fl_of hf
  have hsome : (M.get s.files no).isSome = true := by rw [hf]; rfl
  unfold tidE tidS
  rw [hfl]
  show (if (good : Int) < (p.size : Int) then _ else _) = _ ∧ Live (if (good : Int) < (p.size : Int) then _ else _) ∧ ∀ a, M.get (if (good : Int) < (p.size : Int) then _ else _ : DS).files a = _
  by_cases hlt : (good : Int) < (p.size : Int)
  · rw [if_pos hlt, if_pos hlt]
    obtain ⟨t1, t2, t3⟩ := tri_live good h hn hsome (by rw [hfl]; exact hg)
    rw [hfl] at t3
    have hg2 : M.get (triS s no good).files no = some ⟨P, min z good⟩ := by rw [t3, M.get_put, if_pos rfl, ← hP]
    have hfl2 := fl_of hg2
    obtain ⟨u1, u2, u3⟩ := syn_live t2 hn (by rw [hg2]; rfl)
    rw [hfl2] at u3
    rw [if_neg (by rw [t1]; decide), if_neg (by rw [t1]; decide)]
    refine ⟨u1, u2, fun a => ?_⟩
    rw [u3, M.get_put, t3, M.get_put]
    split <;> rfl
  · rw [if_neg hlt, if_neg hlt]
    have hge : good = p.size := by omega
    have hpP : p = P := by rw [← hP, hge, ext_self]
    obtain ⟨u1, u2, u3⟩ := syn_live h hn hsome
    rw [hfl] at u3
    refine ⟨u1, u2, fun a => ?_⟩
    rw [u3, M.get_put, ← hpP]
theorem rm_keys {s : DS} {k : Nat} (hO : Okk s k) (hL : Live s) (g n : Int) : (remOut g n s.keys s).1 = 0 ∧ Live (remOut g n s.keys s).2 ∧ ∀ a, M.get (remOut g n s.keys s).2.files a = if g * 100 ≤ a ∧ a ≤ g * 100 + n then M.get s.files a else none := by
  obtain ⟨h1, h2, h3⟩ := remOut_live g n s.keys s hL hO.nd (keys_nd hO.nd) (fun a ha => ⟨keys_pos hO a ha, (keys_mem a).1 ha⟩)
  refine ⟨h1, h2, fun a => ?_⟩
  rw [h3]
  by_cases hr : g * 100 ≤ a ∧ a ≤ g * 100 + n
  · rw [if_neg (fun h => h.2 hr), if_pos hr]
  · rw [if_neg hr]
    cases hs : M.get s.files a with
    | none => split <;> rfl
    | some f => rw [if_pos ⟨(keys_mem a).2 (by rw [hs]; rfl), hr⟩]
/-- a generation without segments -/
theorem openZ {s : DS} {k : Nat} {g : Int} {T : ByteArray} (hO : Okk s k) (hL : Live s) (gr : 1 ≤ g ∧ g ≤ 9999) (hT : T.size ≤ 300) (hd : M.get s.files (g * 100) = some ⟨frm T, (frm T).size⟩) (h1 : (M.get s.files (g * 100 + 1)).isSome = false)
    (hs : ∀ a, (M.get s.files a).isSome = true → g * 100 < a → a % 100 ≠ 0 ∨ whole (s.fl a).data = false) :
    ∃ s', openP s = ⟨0, s', some ⟨g, T, [], 0, 0, false⟩⟩ ∧ Live s' ∧ (∀ D, Old s' g T 0 D 0) ∧ Only s' g 0 false := by
  have hfl := fl_of hd
  have hw := whole_frm T (by omega)
  have hnew : newP s s.keys.reverse = some (g, T) := by
    have := newest_of hO (g * 100) (by omega) (by omega) (by rw [hfl]; exact hw.1) (by rw [hd]; rfl) hs
    rw [hfl] at this
    rw [this, show g * 100 / 100 = g by omega]
    show some (g, fBody (frm T)) = _
    rw [hw.2]
  have hsg : segs s (g, T) = ⟨[], 0, 0⟩ := by
    unfold segs
    rw [segP, if_neg (by rw [h1]; decide)]
  obtain ⟨r1, r2, r3⟩ := rm_keys hO hL g 0
  refine ⟨(remOut g 0 s.keys s).2, ?_, r2, fun D => ⟨gr, hT, Nat.zero_le _, fun i hi => absurd hi (by omega), fun i hi => absurd hi (by omega), ?_, fun i hi => absurd hi (by omega), fun N hN => absurd hN (by omega), fun _ => rfl⟩, fun a ha => ?_⟩
  · unfold openP
    rw [hnew]
    show openT (g, T) (segs s (g, T)) (remOut g (segs s (g, T)).last s.keys s) = _
    rw [hsg]
    show openT (g, T) ⟨[], 0, 0⟩ (remOut g 0 s.keys s) = _
    unfold openT
    rw [if_neg (by rw [r1]; decide), if_pos rfl]
  · rw [r3, if_pos (by omega), hd]
  · rw [r3] at ha
    by_cases hr : g * 100 ≤ a ∧ a ≤ g * 100 + 0
    · exact .inl (by simpa using hr)
    · rw [if_neg hr] at ha; cases ha
/-- a generation with segments, the last one perhaps torn -/
theorem openA {s : DS} {k : Nat} {g : Int} {T p : ByteArray} {N j z : Nat} {D : Nat → List ByteArray} {x : Bool} (hO : Okk s k) (hL : Live s) (gr : 1 ≤ g ∧ g ≤ 9999) (hT : T.size ≤ 300) (hN : N + 1 ≤ 99)
    (sm : ∀ i, i < N + 1 → ∀ b ∈ D i, b.size ≤ 300) (ps : ∀ i, i < N + 1 → (packs (D i)).size ≤ 1000) (hd : M.get s.files (g * 100) = some ⟨frm T, (frm T).size⟩)
    (full : ∀ i, i + 1 < N + 1 → M.get s.files (g * 100 + (i + 1)) = some ⟨packs (D i), (packs (D i)).size⟩) (last : M.get s.files (g * 100 + (N + 1)) = some ⟨p, z⟩) (hc : Cut (D N) p j)
    (ho : Only s g (N + 1) x) (hx : x = true → whole (s.fl ((g + 1) * 100)).data = false) :
    ∃ s', openP s = ⟨0, s', some ⟨g, T, cat D N ++ (D N).take j, N + 1, 0, false⟩⟩ ∧ Live s' ∧ Old s' g T (N + 1) (upd D N ((D N).take j)) ((D N).take j).length ∧ Only s' g (N + 1) false := by
  have hfl := fl_of hd
  have hw := whole_frm T (by omega)
  have hnew : newP s s.keys.reverse = some (g, T) := by
    have := newest_of hO (g * 100) (by omega) (by omega) (by rw [hfl]; exact hw.1) (by rw [hd]; rfl) (fun a ha hlt => by
      rcases ho a ha with h | ⟨h, e⟩
      · exact .inl (by omega)
      · subst e; exact .inr (hx h))
    rw [hfl] at this
    rw [this, show g * 100 / 100 = g by omega]
    show some (g, fBody (frm T)) = _
    rw [hw.2]
  have hsg : segs s (g, T) = ⟨cat D N ++ (D N).take j, N + 1, (packs ((D N).take j)).size⟩ := by
    have := segs_of s g N D p j hN (fun i hi b hb => Nat.le_trans (sm i (by omega) b hb) (by decide)) (fun i hi => ⟨_, full i (by omega)⟩) ⟨z, last⟩ hc (fun hN2 => by
      cases hs : (M.get s.files (g * 100 + ((N : Int) + 1 + 1))).isSome with
      | false => rfl
      | true =>
        rcases ho _ hs with h | ⟨_, e⟩
        · omega
        · omega) N 0 ⟨[], 0, 0⟩ (by omega) rfl
    unfold segs
    simpa using this
  obtain ⟨r1, r2, r3⟩ := rm_keys hO hL g ((N : Int) + 1)
  obtain ⟨s2, hs2⟩ : ∃ s2, (remOut g ((N : Int) + 1) s.keys s).2 = s2 := ⟨_, rfl⟩
  rw [hs2] at r2 r3
  have hl2 : M.get s2.files (g * 100 + ((N : Int) + 1)) = some ⟨p, z⟩ := by rw [r3, if_pos (by omega), last]
  obtain ⟨t1, t2, t3⟩ := tid_live (good := (packs ((D N).take j)).size) r2 (by omega) hl2 hc.fits hc.good
  obtain ⟨s3, hs3⟩ : ∃ s3, tidS s2 (g * 100 + ((N : Int) + 1)) ((packs ((D N).take j)).size : Int) = s3 := ⟨_, rfl⟩
  rw [hs3] at t2 t3
  refine ⟨s3, ?_, t2, ⟨gr, hT, by omega, fun i hi b hb => ?_, fun i hi => ?_, ?_, fun i hi => ?_, fun M hM => ?_, fun h => by omega⟩, fun a ha => ?_⟩
  · unfold openP
    rw [hnew]
    show openT (g, T) (segs s (g, T)) (remOut g (segs s (g, T)).last s.keys s) = _
    rw [hsg]
    show openT (g, T) ⟨cat D N ++ (D N).take j, (N : Int) + 1, ((packs ((D N).take j)).size : Int)⟩ (remOut g ((N : Int) + 1) s.keys s) = _
    unfold openT
    rw [if_neg (by rw [r1]; decide), if_neg (show ¬ ((N : Int) + 1 = 0) by omega), hs2, hs3]
    show (if tidE s2 (g * 100 + ((N : Int) + 1)) _ ≠ 0 then _ else _) = _
    rw [if_neg (by rw [t1]; decide)]
  · by_cases e : i = N
    · subst e; rw [upd_at] at hb; exact sm _ hi b (List.mem_of_mem_take hb)
    · rw [upd_off _ _ e] at hb; exact sm i hi b hb
  · by_cases e : i = N
    · subst e; rw [upd_at]; exact Nat.le_trans (packs_take_le _ _) (ps _ hi)
    · rw [upd_off _ _ e]; exact ps i hi
  · rw [t3, if_neg (by omega), r3, if_pos (by omega), hd]
  · rw [upd_off _ _ (by omega), t3, if_neg (by omega), r3, if_pos (by omega)]
    exact full i hi
  · obtain rfl : M = N := by omega
    rw [upd_at, List.take_length, t3, if_pos rfl]
    exact ⟨rfl, Nat.le_refl _⟩
  · rw [t3] at ha
    by_cases e : a = g * 100 + ((N : Int) + 1)
    · subst e; exact .inl (by omega)
    · rw [if_neg e, r3] at ha
      by_cases hr : g * 100 ≤ a ∧ a ≤ g * 100 + ((N : Int) + 1)
      · exact .inl (by simpa using hr)
      · rw [if_neg hr] at ha; cases ha
/-- a disk on which all is safe: Open finds it as it is -/
theorem openSafe {s : DS} {k : Nat} {g : Int} {T : ByteArray} {n : Nat} {D : Nat → List ByteArray} {q : Nat} (hO : Okk s k) (hL : Live s) (h : Old s g T n D q) (ho : Only s g n false) :
    ∃ s', openP s = ⟨0, s', some ⟨g, T, cat D n, n, 0, false⟩⟩ ∧ Live s' ∧ (∃ D' q', Old s' g T n D' q' ∧ cat D' n = cat D n ∧ (cat D' (n - 1)).length + q' = (cat D n).length) ∧ Only s' g n false := by
  cases n with
  | zero =>
    obtain ⟨s', h1, h2, h3, h4⟩ := openZ hO hL h.gr h.tt h.hd (by
      cases hs : (M.get s.files (g * 100 + 1)).isSome with
      | false => rfl
      | true =>
        rcases ho _ hs with h | ⟨e, _⟩
        · exfalso; have h2 := h.2; simp at h2
          omega
        · cases e) (fun a ha hlt => by
        rcases ho a ha with h | ⟨e, _⟩
        · have h2 := h.2; simp at h2; omega
        · cases e)
    exact ⟨s', h1, h2, ⟨D, 0, h3 D, rfl, rfl⟩, h4⟩
  | succ N =>
    have hl := h.last N rfl
    have hc := cut_all (D N) (fun b hb => Nat.le_trans (h.sm N (by omega) b hb) (by decide))
    obtain ⟨s', h1, h2, h3, h4⟩ := openA hO hL h.gr h.tt h.nn h.sm h.ps h.hd h.full hl.1 hc ho (fun e => by cases e)
    rw [List.take_length] at h1 h3
    refine ⟨s', ?_, h2, ⟨_, _, h3, ?_, ?_⟩, h4⟩
    · rw [h1, cat_succ]; rfl
    · rw [cat_succ, cat_succ, cat_upd, upd_at]
    · show (cat (upd D N (D N)) N).length + _ = _
      rw [cat_upd, cat_succ, List.length_append]
end Go.Proofs.YtdmjbdecemajpaaDoor.D
namespace Go.Proofs.YtdmjbdecemajpaaDoor.D
set_option linter.unusedVariables false
set_option linter.unusedSimpArgs false
open Go.RowKit
/-- how many records are safe -/
def cnt (D : Nat → List ByteArray) (n q : Nat) : Nat := (cat D (n - 1)).length + q
structure InvA (s : DS) (L : LS) (T : ByteArray) (all : List ByteArray) (safe : Nat) (next : List ByteArray) (g : Int) (n : Nat) (D : Nat → List ByteArray) (q : Nat) (x : Bool) (vain : List ByteArray) : Prop where
  old : Old s g T n D q
  only : Only s g n x
  ex : x = true → ∃ S z, M.get s.files ((g + 1) * 100) = some ⟨frm S, z⟩ ∧ z ≤ (frm S).size ∧ S.size ≤ 300 ∧ g + 1 ≤ 9999 ∧ next.getLast? = some S ∧ L.over = true ∧ s.off = true
  al : all = cat D n ++ vain
  sf : safe ≤ cnt D n q
  live : L.over = false → vain = [] ∧ next = [] ∧ L.gen = g ∧ L.last = n ∧ 0 ≤ L.pend ∧ ((all.length : Nat) : Int) = (cnt D n q : Int) + L.pend
structure InvB (s : DS) (L : LS) (next : List ByteArray) (g : Int) (S : ByteArray) : Prop where
  over : L.over = true
  off : s.off = true
  gr : 1 ≤ g ∧ g + 1 ≤ 9999
  sz : S.size ≤ 300
  hd : M.get s.files ((g + 1) * 100) = some ⟨frm S, (frm S).size⟩
  oth : ∀ a, (M.get s.files a).isSome = true → (g * 100 ≤ a ∧ a ≤ g * 100 + 99) ∨ a = (g + 1) * 100
  next : next.getLast? = some S
def Inv (s : DS) (L : LS) (T : ByteArray) (all : List ByteArray) (safe : Nat) (next : List ByteArray) : Prop :=
  (s.off = true → s.fuse = 0) ∧ ((∃ g n D q x vain, InvA s L T all safe next g n D q x vain) ∨ ∃ g S, InvB s L next g S)
/-! ### files stay as they are -/
theorem Old.same {s s' : DS} {g : Int} {T : ByteArray} {n : Nat} {D : Nat → List ByteArray} {q : Nat} (h : Old s g T n D q) (he : s'.files = s.files) : Old s' g T n D q :=
  { h with hd := by rw [he]; exact h.hd, full := fun i hi => by rw [he]; exact h.full i hi, last := fun N hN => by rw [he]; exact h.last N hN }
theorem Only.same {s s' : DS} {g : Int} {n : Nat} {x : Bool} (h : Only s g n x) (he : s'.files = s.files) : Only s' g n x := fun a ha => h a (by rw [← he]; exact ha)
theorem step_off' (s : DS) : ((stepS s).off = true → s.off = false → (stepS s).fuse = 0) ∧ (stepE s = 0 ∨ stepE s = 6) ∧ (stepE s = 0 → (stepS s).off = s.off) ∧ (stepE s = 6 → (stepS s).off = true ∧ (stepS s).fuse = 0) := by
  unfold stepS stepE
  by_cases h : s.fuse = 1
  · rw [if_pos h, if_pos h]
    exact ⟨fun _ _ => rfl, .inr rfl, fun h => (by cases h), fun _ => ⟨rfl, rfl⟩⟩
  · rw [if_neg h, if_neg h]
    exact ⟨fun h1 h2 => (by rw [show ({ s with steps := s.steps + 1, fuse := max 0 (s.fuse - 1) } : DS).off = s.off from rfl, h2] at h1; cases h1), .inl rfl, fun _ => rfl, fun h => by cases h⟩
theorem step_put' (s : DS) (no : Int) (f : Fl) : stepE (s.put no f) = stepE s ∧ (stepS (s.put no f)).off = (stepS s).off ∧ (stepS (s.put no f)).fuse = (stepS s).fuse ∧ (stepS (s.put no f)).files = M.put s.files no f := by
  have hf : (stepS (s.put no f)).files = M.put s.files no f := by rw [stepS_files]; rfl
  by_cases h : s.fuse = 1
  · have h' : (s.put no f).fuse = 1 := h
    unfold stepS stepE at *
    rw [if_pos h, if_pos h', if_pos h, if_pos h']
    exact ⟨rfl, rfl, rfl, rfl⟩
  · have h' : ¬ (s.put no f).fuse = 1 := h
    unfold stepS stepE at *
    rw [if_neg h, if_neg h', if_neg h, if_neg h']
    exact ⟨rfl, rfl, rfl, rfl⟩
/-- a step that is done, or the power goes -/
structure Stp (s s' : DS) (E : Int) : Prop where
  e : E = 0 ∨ E = 6
  on : E = 0 → s'.off = false
  off : E = 6 → s'.off = true ∧ s'.fuse = 0
theorem app_off {s : DS} {no : Int} {F : ByteArray} (h : s.off = true) : appE s no F = 6 ∧ appS s no F = s := by
  have h0 : mayE s no false = 6 := may_off h no false
  unfold appE appS
  rw [if_pos (by rw [h0]; decide), if_pos (by rw [h0]; decide)]
  exact ⟨h0, rfl⟩
theorem app_old {s : DS} {no : Int} {F d : ByteArray} {z : Nat} (h : s.off = false) (hn : 1 ≤ no ∧ no ≤ 1000000) (hf : M.get s.files no = some ⟨d, z⟩) (hs : d.size + F.size ≤ 1048576) :
    (appS s no F).files = M.put s.files no ⟨d ++ F, z⟩ ∧ Stp s (appS s no F) (appE s no F) := by
  have hfl := fl_of hf
  have h0 : mayE s no false = 0 := may_ok h (by omega) (fun e => by cases e)
  have hns : ¬ ((M.get s.files no).isSome = false ∧ 110 ≤ s.files.length) := by rw [hf]; rintro ⟨h, _⟩; cases h
  have hsz : ¬ 1048576 < d.size + F.size := by omega
  have eE : appE s no F = stepE s := by
    unfold appE
    rw [hfl, if_neg (by rw [h0]; decide), if_neg hsz, if_neg hns]
  have eS : appS s no F = stepS (s.put no ⟨d ++ F, z⟩) := by
    unfold appS
    rw [hfl, if_neg (by rw [h0]; decide), if_neg hsz, if_neg hns]
  rw [eE, eS]
  obtain ⟨p1, p2, p3, p4⟩ := step_put' s no ⟨d ++ F, z⟩
  have st := step_off' s
  exact ⟨p4, st.2.1, fun e => by rw [p2, st.2.2.1 e]; exact h, fun e => by rw [p2, p3]; exact st.2.2.2 e⟩
theorem app_new {s : DS} {no : Int} {F : ByteArray} (h : s.off = false) (hn : 1 ≤ no ∧ no ≤ 1000000) (hf : M.get s.files no = none) (hs : F.size ≤ 1000) :
    (appE s no F = 9 ∧ appS s no F = s) ∨ ((appS s no F).files = M.put s.files no ⟨F, 0⟩ ∧ Stp s (appS s no F) (appE s no F)) := by
  have hfl : s.fl no = fl0 := by unfold DS.fl; rw [hf]; rfl
  have h0 : mayE s no false = 0 := may_ok h (by omega) (fun e => by cases e)
  have hz : ¬ 1048576 < (fl0.data).size + F.size := by show ¬ 1048576 < 0 + F.size; omega
  have eE : appE s no F = (if (M.get s.files no).isSome = false ∧ 110 ≤ s.files.length then 9 else stepE s) := by
    unfold appE
    rw [hfl, if_neg (by rw [h0]; decide), if_neg hz]
  have eS : appS s no F = (if (M.get s.files no).isSome = false ∧ 110 ≤ s.files.length then s else stepS (s.put no ⟨fl0.data ++ F, fl0.safe⟩)) := by
    unfold appS
    rw [hfl, if_neg (by rw [h0]; decide), if_neg hz]
  by_cases hl : (M.get s.files no).isSome = false ∧ 110 ≤ s.files.length
  · rw [eE, eS, if_pos hl, if_pos hl]; exact .inl ⟨rfl, rfl⟩
  · rw [if_neg hl] at eE eS
    rw [eE, eS]
    obtain ⟨p1, p2, p3, p4⟩ := step_put' s no ⟨fl0.data ++ F, fl0.safe⟩
    have st := step_off' s
    refine .inr ⟨by rw [p4]; show M.put s.files no ⟨⟨#[]⟩ ++ F, 0⟩ = _; rw [empty_append], st.2.1, fun e => by rw [p2, st.2.2.1 e]; exact h, fun e => by rw [p2, p3]; exact st.2.2.2 e⟩
theorem syn_any' {s : DS} {no : Int} {d : ByteArray} {z : Nat} (h : s.off = false) (hn : 1 ≤ no ∧ no ≤ 1000000) (hf : M.get s.files no = some ⟨d, z⟩) :
    (synE s no = 0 ∧ (synS s no).off = false ∧ (synS s no).files = M.put s.files no ⟨d, d.size⟩) ∨ (synE s no = 6 ∧ (synS s no).off = true ∧ (synS s no).fuse = 0 ∧ (synS s no).files = s.files) := by
  have hfl := fl_of hf
  have h0 : mayE s no true = 0 := may_ok h (by omega) (fun _ => by rw [hf]; rfl)
  have st := step_off' s
  unfold synE synS
  rw [hfl, if_neg (by rw [h0]; decide), if_neg (by rw [h0]; decide)]
  rcases st.2.1 with e | e
  · rw [if_neg (by rw [e]; decide)]
    exact .inl ⟨e, (st.2.2.1 e).trans h, by show M.put (stepS s).files no _ = _; rw [stepS_files]⟩
  · rw [if_pos (by rw [e]; decide)]
    exact .inr ⟨e, (st.2.2.2 e).1, (st.2.2.2 e).2, stepS_files s⟩
theorem syn_off {s : DS} {no : Int} (h : s.off = true) : synE s no = 6 ∧ synS s no = s := by
  have h0 : mayE s no true = 6 := may_off h no true
  unfold synE synS
  rw [if_pos (by rw [h0]; decide), if_pos (by rw [h0]; decide)]
  exact ⟨h0, rfl⟩
/-! ### one more record -/
theorem Old.more {s s' : DS} {g : Int} {T t : ByteArray} {N : Nat} {D : Nat → List ByteArray} {q : Nat} (h : Old s g T (N + 1) D q) (ht : t.size ≤ 300) (h6 : (packs (D N)).size < 600)
    (hf : s'.files = M.put s.files (g * 100 + ((N : Int) + 1)) ⟨packs (D N) ++ frm t, (packs ((D N).take q)).size⟩) : Old s' g T (N + 1) (upd D N (D N ++ [t])) q := by
  have hq := (h.last N rfl).2
  refine ⟨h.gr, h.tt, h.nn, fun i hi b hb => ?_, fun i hi => ?_, ?_, fun i hi => ?_, fun K hM => ?_, fun e => by omega⟩
  · by_cases e : i = N
    · subst e
      rw [upd_at] at hb
      rcases List.mem_append.1 hb with hb | hb
      · exact h.sm _ hi b hb
      · simp at hb; subst hb; exact ht
    · rw [upd_off _ _ e] at hb; exact h.sm i hi b hb
  · by_cases e : i = N
    · subst e
      rw [upd_at, packs_append, packs_one, ByteArray.size_append, frm_size]; omega
    · rw [upd_off _ _ e]; exact h.ps i hi
  · rw [hf, M.get_put, if_neg (by omega)]; exact h.hd
  · rw [upd_off _ _ (by omega), hf, M.get_put, if_neg (by omega)]; exact h.full i hi
  · obtain rfl : K = N := by omega
    rw [upd_at, hf, M.get_put, if_pos rfl, packs_append, packs_one, List.take_append_of_le_length hq]
    exact ⟨rfl, by rw [List.length_append]; omega⟩
theorem Only.put {s s' : DS} {g : Int} {n : Nat} {x : Bool} {no : Int} {f : Fl} (h : Only s g n x) (hf : s'.files = M.put s.files no f) (hn : g * 100 ≤ no ∧ no ≤ g * 100 + n) : Only s' g n x := fun a ha => by
  rw [hf, M.get_put] at ha
  by_cases e : a = no
  · exact .inl (by omega)
  · rw [if_neg e] at ha; exact h a ha
/-- all is safe -/
def AllSafe (n : Nat) (D : Nat → List ByteArray) (q : Nat) : Prop := ∀ N, n = N + 1 → q = (D N).length
theorem cnt_all {n : Nat} {D : Nat → List ByteArray} {q : Nat} (h : AllSafe n D q) (h0 : n = 0 → q = 0) : cnt D n q = (cat D n).length := by
  cases n with
  | zero => rw [h0 rfl]; rfl
  | succ N => rw [h N rfl, cat_succ, List.length_append]; rfl
theorem Old.seg {s s' : DS} {g : Int} {T t : ByteArray} {n : Nat} {D : Nat → List ByteArray} {q : Nat} (h : Old s g T n D q) (ha : AllSafe n D q) (ht : t.size ≤ 300) (hn : n + 1 ≤ 99)
    (hf : s'.files = M.put s.files (g * 100 + ((n : Int) + 1)) ⟨frm t, 0⟩) : Old s' g T (n + 1) (upd D n [t]) 0 := by
  refine ⟨h.gr, h.tt, hn, fun i hi b hb => ?_, fun i hi => ?_, ?_, fun i hi => ?_, fun K hM => ?_, fun e => by omega⟩
  · by_cases e : i = n
    · subst e; rw [upd_at] at hb; simp at hb; subst hb; exact ht
    · rw [upd_off _ _ e] at hb; exact h.sm i (by omega) b hb
  · by_cases e : i = n
    · subst e; rw [upd_at, packs_one, frm_size]; omega
    · rw [upd_off _ _ e]; exact h.ps i (by omega)
  · rw [hf, M.get_put, if_neg (by omega)]; exact h.hd
  · rw [upd_off _ _ (by omega), hf, M.get_put, if_neg (by omega)]
    by_cases e : i + 1 < n
    · exact h.full i e
    · have hl := (h.last i (by omega)).1
      rw [ha i (by omega), List.take_length] at hl
      exact hl
  · obtain rfl : K = n := by omega
    rw [upd_at, hf, M.get_put, if_pos rfl, packs_one]
    exact ⟨rfl, Nat.zero_le _⟩
theorem Only.seg {s s' : DS} {g : Int} {n : Nat} {f : Fl} (h : Only s g n false) (hf : s'.files = M.put s.files (g * 100 + ((n : Int) + 1)) f) : Only s' g (n + 1) false := fun a ha => by
  rw [hf, M.get_put] at ha
  by_cases e : a = g * 100 + ((n : Int) + 1)
  · exact .inl (by omega)
  · rw [if_neg e] at ha
    rcases h a ha with h1 | ⟨h1, _⟩
    · exact .inl (by omega)
    · cases h1
theorem Old.synced {s s' : DS} {g : Int} {T : ByteArray} {N : Nat} {D : Nat → List ByteArray} {q : Nat} (h : Old s g T (N + 1) D q)
    (hf : s'.files = M.put s.files (g * 100 + ((N : Int) + 1)) ⟨packs (D N), (packs (D N)).size⟩) : Old s' g T (N + 1) D (D N).length := by
  refine ⟨h.gr, h.tt, h.nn, h.sm, h.ps, ?_, fun i hi => ?_, fun K hM => ?_, fun e => by omega⟩
  · rw [hf, M.get_put, if_neg (by omega)]; exact h.hd
  · rw [hf, M.get_put, if_neg (by omega)]; exact h.full i hi
  · obtain rfl : K = N := by omega
    rw [hf, M.get_put, if_pos rfl, List.take_length]
    exact ⟨rfl, Nat.le_refl _⟩
theorem cnt_upd (D : Nat → List ByteArray) (N q : Nat) (R : List ByteArray) : cnt (upd D N R) (N + 1) q = cnt D (N + 1) q := by
  show (cat (upd D N R) N).length + q = (cat D N).length + q
  rw [cat_upd]
theorem cat_seg (D : Nat → List ByteArray) (n : Nat) (t : ByteArray) : cat (upd D n [t]) (n + 1) = cat D n ++ [t] := by rw [cat_succ, cat_upd, upd_at]
theorem cat_more (D : Nat → List ByteArray) (N : Nat) (t : ByteArray) : cat (upd D N (D N ++ [t])) (N + 1) = cat D (N + 1) ++ [t] := by rw [cat_succ, cat_upd, upd_at, cat_succ, List.append_assoc]
theorem endL_over {L : LS} {E : Int} (h : E ≠ 0) : (endL L E).over = true := by
  show (L.over || decide (E ≠ 0)) = true
  rw [decide_eq_true h]; simp
theorem endL_keeps {L : LS} (h : L.over = false) : endL L 0 = L := endL_zero h
/-- the room for the next record is a new segment behind segments that are all safe -/
theorem app_seg {s : DS} {L : LS} {T : ByteArray} {all : List ByteArray} {safe : Nat} {g : Int} {n : Nat} {D : Nat → List ByteArray} {q : Nat} (t : ByteArray) (ho : s.off = false) (h : Old s g T n D q) (hy : Only s g n false) (ha : AllSafe n D q) (ht : t.size ≤ 300) (hn : n + 1 ≤ 99)
    (hall : all = cat D n) (hs : safe ≤ all.length) (hov : L.over = false) (hg : L.gen = g) (hp : L.pend = 0) (E : Int) (S : DS) (hE : appE s (g * 100 + ((n : Int) + 1)) (frm t) = E) (hS : appS s (g * 100 + ((n : Int) + 1)) (frm t) = S) :
    Inv S (addL ⟨(n : Int) + 1, 0, s, L⟩ t E) T (if E = 0 ∨ E = 6 then all ++ [t] else all) (if E = 0 ∧ (addL ⟨(n : Int) + 1, 0, s, L⟩ t E).pend = 1 then all.length else safe) [] := by
  have hc := cnt_all ha h.zero
  have hnone : M.get s.files (g * 100 + ((n : Int) + 1)) = none := by
    cases hx : M.get s.files (g * 100 + ((n : Int) + 1)) with
    | none => rfl
    | some f =>
      rcases hy _ (by rw [hx]; rfl) with h1 | ⟨h1, _⟩
      · omega
      · cases h1
  have hgr := h.gr
  rcases app_new (F := frm t) ho (by omega) hnone (by rw [frm_size]; omega) with ⟨e1, e2⟩ | ⟨e1, e2⟩
  · rw [hE] at e1
    rw [hS] at e2
    subst e1 e2
    rw [if_neg (by decide), if_neg (fun h => absurd h.1 (by decide))]
    refine ⟨fun h => (by rw [ho] at h; cases h), .inl ⟨g, n, D, q, false, [], h, hy, fun e => (by cases e), by simpa using hall, by rw [hc, ← hall]; exact hs, fun e => ?_⟩⟩
    have : (addL ⟨(n : Int) + 1, 0, S, L⟩ t 9).over = true := endL_over (by decide)
    rw [this] at e; cases e
  · rw [hE, hS] at e2
    rw [hS] at e1
    have hO := h.seg ha ht hn e1
    have hY := hy.seg e1
    rcases e2.e with e0 | e6
    · subst e0
      have hon := e2.on rfl
      have hL : addL ⟨(n : Int) + 1, 0, s, L⟩ t 0 = { L with last := (n : Int) + 1, recs := L.recs ++ [t], pend := L.pend + 1 } := by
        unfold addL
        rw [if_neg (by decide), endL_keeps hov]
      rw [hL, if_pos (.inl rfl), if_pos ⟨rfl, by show L.pend + 1 = 1; omega⟩]
      have hcn : cnt (upd D n [t]) (n + 1) 0 = all.length := by
        show (cat (upd D n [t]) n).length + 0 = _
        rw [cat_upd, hall]; rfl
      refine ⟨fun h => (by rw [hon] at h; cases h), .inl ⟨g, n + 1, _, 0, false, [], hO, hY, fun e => (by cases e), by rw [cat_seg, hall]; simp, by rw [hcn]; exact Nat.le_refl _, fun _ => ⟨rfl, rfl, hg, rfl, by show 0 ≤ L.pend + 1; omega, ?_⟩⟩⟩
      rw [hcn, List.length_append]
      show (((all.length + 1 : Nat)) : Int) = _ + (L.pend + 1)
      omega
    · subst e6
      have hoff := e2.off rfl
      rw [if_pos (.inr rfl), if_neg (fun h => absurd h.1 (by decide))]
      have hcn : cnt (upd D n [t]) (n + 1) 0 = all.length := by
        show (cat (upd D n [t]) n).length + 0 = _
        rw [cat_upd, hall]; rfl
      refine ⟨fun _ => hoff.2, .inl ⟨g, n + 1, _, 0, false, [], hO, hY, fun e => (by cases e), by rw [cat_seg, hall]; simp, by rw [hcn]; exact hs, fun e => ?_⟩⟩
      have : (addL ⟨(n : Int) + 1, 0, s, L⟩ t 6).over = true := endL_over (by decide)
      rw [this] at e; cases e
end Go.Proofs.YtdmjbdecemajpaaDoor.D
namespace Go.Proofs.YtdmjbdecemajpaaDoor.D
set_option linter.unusedVariables false
set_option linter.unusedSimpArgs false
open Go.RowKit
theorem InvA.xf {s : DS} {L : LS} {T : ByteArray} {all : List ByteArray} {safe : Nat} {next : List ByteArray} {g : Int} {n : Nat} {D : Nat → List ByteArray} {q : Nat} {x : Bool} {vain : List ByteArray} (h : InvA s L T all safe next g n D q x vain) (ho : L.over = false ∨ s.off = false) : x = false := by
  cases x with
  | false => rfl
  | true =>
    obtain ⟨S, z, _, _, _, _, _, h1, h2⟩ := h.ex rfl
    rcases ho with e | e
    · rw [h1] at e; cases e
    · rw [h2] at e; cases e
/-- a log that is not over: the old form, its all in the files -/
theorem Inv.liveA {s : DS} {L : LS} {T : ByteArray} {all : List ByteArray} {safe : Nat} {next : List ByteArray} (h : Inv s L T all safe next) (ho : L.over = false) :
    ∃ g n D q, Old s g T n D q ∧ Only s g n false ∧ all = cat D n ∧ safe ≤ cnt D n q ∧ next = [] ∧ L.gen = g ∧ L.last = n ∧ 0 ≤ L.pend ∧ ((all.length : Nat) : Int) = (cnt D n q : Int) + L.pend := by
  rcases h.2 with ⟨g, n, D, q, x, vain, hA⟩ | ⟨g, S, hB⟩
  · have hx := hA.xf (.inl ho)
    subst hx
    obtain ⟨h1, h2, h3, h4, h5, h6⟩ := hA.live ho
    exact ⟨g, n, D, q, hA.old, hA.only, by rw [hA.al, h1, List.append_nil], hA.sf, h2, h3, h4, h5, h6⟩
  · rw [hB.over] at ho; cases ho
/-- the old form, the log over -/
theorem Inv.overA {s : DS} {L : LS} {T : ByteArray} {all : List ByteArray} {safe : Nat} {next : List ByteArray} {g : Int} {n : Nat} {D : Nat → List ByteArray} {q : Nat} (vain : List ByteArray) (hf : s.off = true → s.fuse = 0) (h : Old s g T n D q) (hy : Only s g n false) (ha : all = cat D n ++ vain) (hs : safe ≤ cnt D n q) (ho : L.over = true) : Inv s L T all safe next :=
  ⟨hf, .inl ⟨g, n, D, q, false, vain, h, hy, fun e => (by cases e), ha, hs, fun e => (by rw [ho] at e; cases e)⟩⟩
theorem readT_off {s : DS} (h : s.off = true) (no : Int) : (readT s no).size = 0 := by unfold readT; rw [if_pos h]; rfl
theorem readT_on {s : DS} {no : Int} {d : ByteArray} {z : Nat} (h : s.off = false) (hf : M.get s.files no = some ⟨d, z⟩) : readT s no = d := by
  unfold readT; rw [if_neg (by rw [h]; decide), fl_of hf]
theorem app_step {s : DS} {L : LS} {T : ByteArray} {all : List ByteArray} {safe : Nat} {next : List ByteArray} (h : Inv s L T all safe next) (t : ByteArray) (ht : t.size ≤ 300) :
    Inv (wapS s L t) (wapL s L t) T (if wapE s L t = 0 ∨ wapE s L t = 6 then all ++ [t] else all) (if wapE s L t = 0 ∧ (wapL s L t).pend = 1 then all.length else safe) next := by
  by_cases hbad : t.size = 0 ∨ 65536 < t.size
  · have e1 : wapE s L t = 5 := if_pos hbad
    have e2 : wapS s L t = s := if_pos hbad
    have e3 : wapL s L t = L := if_pos hbad
    rw [e1, e2, e3, if_neg (by decide), if_neg (fun h => absurd h.1 (by decide))]
    exact h
  have f1 : wapE s L t = (if L.over = true then 11 else if (roomP s L).e ≠ 0 then (roomP s L).e else appE (roomP s L).s (L.gen * 100 + (roomP s L).k) (frm t)) := if_neg hbad
  have f2 : wapS s L t = (if L.over = true then s else if (roomP s L).e ≠ 0 then (roomP s L).s else appS (roomP s L).s (L.gen * 100 + (roomP s L).k) (frm t)) := if_neg hbad
  have f3 : wapL s L t = (if L.over = true then L else if (roomP s L).e ≠ 0 then (roomP s L).L else addL (roomP s L) t (appE (roomP s L).s (L.gen * 100 + (roomP s L).k) (frm t))) := if_neg hbad
  cases ho : L.over with
  | true =>
    rw [if_pos ho] at f1 f2 f3
    rw [f1, f2, f3, if_neg (by decide), if_neg (fun h => absurd h.1 (by decide))]
    exact h
  | false =>
    have ho' : ¬ L.over = true := by rw [ho]; decide
    rw [if_neg ho'] at f1 f2 f3
    obtain ⟨g, n, D, q, hO, hY, hall, hsafe, hnext, hgen, hlast, hp0, hlen⟩ := h.liveA ho
    subst hnext
    rw [hgen] at f1 f2 f3
    have hgr := hO.gr
    have hcn : cnt D n q ≤ all.length := by omega
    cases hoff : s.off with
    | true =>
      have hr : ∃ kk, roomP s L = ⟨kk, 0, s, L⟩ := by
        unfold roomP
        rw [readT_off hoff]
        cases n with
        | zero =>
          have hl0 : L.last = 0 := hlast
          rw [if_neg (by omega), if_neg (by omega), if_neg (by omega)]
          exact ⟨_, rfl⟩
        | succ N =>
          rw [if_pos ⟨by omega, by omega⟩]
          exact ⟨_, rfl⟩
      obtain ⟨kk, hr⟩ := hr
      obtain ⟨a1, a2⟩ := app_off (no := g * 100 + kk) (F := frm t) hoff
      rw [hr] at f1 f2 f3
      have f1' : wapE s L t = 6 := by rw [f1]; show (if (0 : Int) ≠ 0 then _ else _) = _; rw [if_neg (by decide)]; exact a1
      have f2' : wapS s L t = s := by rw [f2]; show (if (0 : Int) ≠ 0 then _ else _) = _; rw [if_neg (by decide)]; exact a2
      have f3' : (wapL s L t).over = true := by
        rw [f3]; show (if (0 : Int) ≠ 0 then _ else addL ⟨kk, 0, s, L⟩ t (appE s (g * 100 + kk) (frm t)) : LS).over = _
        rw [if_neg (by decide), a1]
        exact endL_over (by decide)
      rw [f1', f2', if_pos (.inr rfl), if_neg (fun h => absurd h.1 (by decide))]
      exact Inv.overA [t] h.1 hO hY (by rw [hall]) hsafe f3'
    | false =>
      cases n with
      | zero =>
        have hl0 : L.last = 0 := hlast
        have hr : roomP s L = ⟨((0 : Nat) : Int) + 1, 0, s, L⟩ := by
          unfold roomP
          rw [if_neg (by omega), if_neg (by omega), if_neg (by omega), hl0]; rfl
        rw [hr] at f1 f2 f3
        have hq0 := hO.zero rfl
        have hal0 : all.length = 0 := by rw [hall]; rfl
        have key := app_seg (T := T) (safe := safe) t hoff hO hY (fun N hN => by omega) ht (by omega) hall (by omega) ho hgen (by omega) _ _ rfl rfl
        rw [f1, f2, f3]
        show Inv (if (0 : Int) ≠ 0 then _ else _) (if (0 : Int) ≠ 0 then _ else _) T _ _ []
        simp only [ne_eq, not_true_eq_false, if_false]
        exact key
      | succ N =>
        have hl := (hO.last N rfl).1
        have hrd := readT_on hoff hl
        have hlast' : L.last = (N : Int) + 1 := by rw [hlast]; rfl
        have hnn := hO.nn
        by_cases h6 : (packs (D N)).size < 600
        · have hr : roomP s L = ⟨(N : Int) + 1, 0, s, L⟩ := by
            unfold roomP
            rw [hgen, hlast', hrd, if_pos ⟨by omega, h6⟩]
          rw [hr] at f1 f2 f3
          have hfs := frm_size t
          obtain ⟨a1, a2⟩ := app_old (F := frm t) hoff (by omega) hl (by omega)
          have f1' : wapE s L t = appE s (g * 100 + ((N : Int) + 1)) (frm t) := by rw [f1]; exact if_neg (show ¬ ((0 : Int) ≠ 0) by decide)
          have f2' : wapS s L t = appS s (g * 100 + ((N : Int) + 1)) (frm t) := by rw [f2]; exact if_neg (show ¬ ((0 : Int) ≠ 0) by decide)
          have f3' : wapL s L t = addL ⟨(N : Int) + 1, 0, s, L⟩ t (appE s (g * 100 + ((N : Int) + 1)) (frm t)) := by rw [f3]; exact if_neg (show ¬ ((0 : Int) ≠ 0) by decide)
          obtain ⟨E, hE⟩ : ∃ E, appE s (g * 100 + ((N : Int) + 1)) (frm t) = E := ⟨_, rfl⟩
          obtain ⟨S, hS⟩ : ∃ S, appS s (g * 100 + ((N : Int) + 1)) (frm t) = S := ⟨_, rfl⟩
          rw [hE] at a2 f1' f3'
          rw [hS] at a1 a2 f2'
          have hO2 := hO.more ht h6 a1
          have hY2 := hY.put a1 (by omega)
          have hc2 := cnt_upd D N q (D N ++ [t])
          have hal2 : all ++ [t] = cat (upd D N (D N ++ [t])) (N + 1) := by rw [cat_more, hall]
          rw [f1', f2', f3']
          rcases a2.e with e0 | e6
          · subst e0
            have hon := a2.on rfl
            have hL : addL ⟨(N : Int) + 1, 0, s, L⟩ t 0 = { L with last := (N : Int) + 1, recs := L.recs ++ [t], pend := L.pend + 1 } := by
              unfold addL
              rw [if_neg (by decide), endL_keeps ho]
            rw [hL, if_pos (.inl rfl)]
            refine ⟨fun h => (by rw [hon] at h; cases h), .inl ⟨g, N + 1, _, q, false, [], hO2, hY2, fun e => (by cases e), by rw [List.append_nil]; exact hal2, ?_, fun _ => ⟨rfl, rfl, hgen, rfl, by show 0 ≤ L.pend + 1; omega, ?_⟩⟩⟩
            · rw [hc2]
              split
              · rename_i hp1
                have hp1' : L.pend + 1 = 1 := hp1.2
                omega
              · exact hsafe
            · rw [hc2, List.length_append]
              show (((all.length + 1 : Nat)) : Int) = _ + (L.pend + 1)
              omega
          · subst e6
            have hf := a2.off rfl
            rw [if_pos (.inr rfl), if_neg (fun h => absurd h.1 (by decide))]
            exact Inv.overA [] (fun _ => hf.2) hO2 hY2 (by rw [List.append_nil]; exact hal2) (by rw [hc2]; exact hsafe) (endL_over (by decide))
        · by_cases h99 : L.last = 99
          · have hr : roomP s L = ⟨0, 9, s, L⟩ := by
              unfold roomP
              rw [if_neg (fun h => h6 (by have := h.2; rw [hgen, hlast', hrd] at this; exact this)), if_pos h99]
            rw [hr] at f1 f2 f3
            have f1' : wapE s L t = 9 := by rw [f1]; exact if_pos (show (9 : Int) ≠ 0 by decide)
            have f2' : wapS s L t = s := by rw [f2]; exact if_pos (show (9 : Int) ≠ 0 by decide)
            have f3' : wapL s L t = L := by rw [f3]; exact if_pos (show (9 : Int) ≠ 0 by decide)
            rw [f1', f2', f3', if_neg (by decide), if_neg (fun h => absurd h.1 (by decide))]
            exact h
          · have hr : roomP s L = (if synE s (g * 100 + ((N : Int) + 1)) ≠ 0 then ⟨0, synE s (g * 100 + ((N : Int) + 1)), synS s (g * 100 + ((N : Int) + 1)), endL L (synE s (g * 100 + ((N : Int) + 1)))⟩
                else ⟨(N : Int) + 1 + 1, 0, synS s (g * 100 + ((N : Int) + 1)), { endL L (synE s (g * 100 + ((N : Int) + 1))) with pend := 0 }⟩) := by
              unfold roomP
              rw [if_neg (fun h => h6 (by have := h.2; rw [hgen, hlast', hrd] at this; exact this)), if_neg h99, if_pos (by omega), hgen, hlast']
            rcases syn_any' hoff (by omega) hl with ⟨b1, b2, b3⟩ | ⟨b1, b2, b3, b4⟩
            · rw [b1, if_neg (by decide), endL_keeps ho] at hr
              obtain ⟨s1, hs1⟩ : ∃ s1, synS s (g * 100 + ((N : Int) + 1)) = s1 := ⟨_, rfl⟩
              rw [hs1] at hr b2 b3
              rw [hr] at f1 f2 f3
              have hO1 := hO.synced b3
              have hY1 := hY.put b3 (by omega)
              have key := app_seg (L := { L with pend := 0 }) (T := T) (all := all) (safe := safe) t b2 hO1 hY1 (fun K hK => (by obtain rfl : K = N := (by omega); rfl)) ht (by omega) hall (by omega) ho hgen rfl _ _ rfl rfl
              have f1' : wapE s L t = appE s1 (g * 100 + (((N + 1 : Nat) : Int) + 1)) (frm t) := by rw [f1]; exact if_neg (show ¬ ((0 : Int) ≠ 0) by decide)
              have f2' : wapS s L t = appS s1 (g * 100 + (((N + 1 : Nat) : Int) + 1)) (frm t) := by rw [f2]; exact if_neg (show ¬ ((0 : Int) ≠ 0) by decide)
              have f3' : wapL s L t = addL ⟨((N + 1 : Nat) : Int) + 1, 0, s1, { L with pend := 0 }⟩ t (appE s1 (g * 100 + (((N + 1 : Nat) : Int) + 1)) (frm t)) := by rw [f3]; exact if_neg (show ¬ ((0 : Int) ≠ 0) by decide)
              rw [f1', f2', f3']
              exact key
            · rw [b1, if_pos (by decide)] at hr
              rw [hr] at f1 f2 f3
              have f1' : wapE s L t = 6 := by rw [f1]; exact if_pos (show (6 : Int) ≠ 0 by decide)
              have f2' : wapS s L t = synS s (g * 100 + ((N : Int) + 1)) := by rw [f2]; exact if_pos (show (6 : Int) ≠ 0 by decide)
              have f3' : wapL s L t = endL L 6 := by rw [f3]; exact if_pos (show (6 : Int) ≠ 0 by decide)
              rw [f1', f2', f3', if_pos (.inr rfl), if_neg (fun h => absurd h.1 (by decide))]
              exact Inv.overA [t] (fun _ => b3) (hO.same b4) (hY.same b4) (by rw [hall]) hsafe (endL_over (by decide))
theorem sync_step {s : DS} {L : LS} {T : ByteArray} {all : List ByteArray} {safe : Nat} {next : List ByteArray} (h : Inv s L T all safe next) :
    Inv (wsyS s L) (wsyL s L) T all (if wsyE s L = 0 then all.length else safe) next := by
  cases ho : L.over with
  | true =>
    have e1 : wsyE s L = 11 := if_pos ho
    have e2 : wsyS s L = s := if_pos ho
    have e3 : wsyL s L = L := if_pos ho
    rw [e1, e2, e3, if_neg (by decide)]
    exact h
  | false =>
    have ho' : ¬ L.over = true := by rw [ho]; decide
    obtain ⟨g, n, D, q, hO, hY, hall, hsafe, hnext, hgen, hlast, hp0, hlen⟩ := h.liveA ho
    subst hnext
    have hgr := hO.gr
    have f1 : wsyE s L = (if 0 < L.last then synE s (L.gen * 100 + L.last) else 0) := if_neg ho'
    have f2 : wsyS s L = (if 0 < L.last then synS s (L.gen * 100 + L.last) else s) := if_neg ho'
    have f3 : wsyL s L = (if 0 < L.last then (if synE s (L.gen * 100 + L.last) ≠ 0 then endL L (synE s (L.gen * 100 + L.last)) else { endL L (synE s (L.gen * 100 + L.last)) with pend := 0 }) else { L with pend := 0 }) := if_neg ho'
    cases n with
    | zero =>
      have hl0 : L.last = 0 := hlast
      rw [if_neg (by omega)] at f1 f2 f3
      rw [f1, f2, f3, if_pos rfl]
      have hal0 : all.length = 0 := by rw [hall]; rfl
      refine ⟨h.1, .inl ⟨g, 0, D, q, false, [], hO, hY, fun e => (by cases e), by rw [hall, List.append_nil], by omega, fun _ => ⟨rfl, rfl, hgen, hlast, Int.le_refl _, ?_⟩⟩⟩
      show _ = _ + (0 : Int)
      omega
    | succ N =>
      have hl := (hO.last N rfl).1
      have hlast' : L.last = (N : Int) + 1 := by rw [hlast]; rfl
      have hnn := hO.nn
      rw [if_pos (by omega), hgen, hlast'] at f1 f2 f3
      cases hoff : s.off with
      | true =>
        obtain ⟨b1, b2⟩ := syn_off (no := g * 100 + ((N : Int) + 1)) hoff
        rw [b1] at f1 f3
        rw [b2] at f2
        rw [if_pos (by decide)] at f3
        rw [f1, f2, f3, if_neg (by decide)]
        exact Inv.overA [] h.1 hO hY (by rw [List.append_nil]; exact hall) hsafe (endL_over (by decide))
      | false =>
        rcases syn_any' hoff (by omega) hl with ⟨b1, b2, b3⟩ | ⟨b1, b2, b3, b4⟩
        · rw [b1] at f1 f3
          rw [if_neg (by decide), endL_keeps ho] at f3
          rw [f1, f2, f3, if_pos rfl]
          have hO1 := hO.synced b3
          have hY1 := hY.put b3 (by omega)
          have hc := cnt_all (D := D) (n := N + 1) (q := (D N).length) (fun K hK => (by obtain rfl : K = N := (by omega); rfl)) (fun e => by omega)
          refine ⟨fun e => (by rw [b2] at e; cases e), .inl ⟨g, N + 1, D, (D N).length, false, [], hO1, hY1, fun e => (by cases e), by rw [hall, List.append_nil], by rw [hc, hall]; exact Nat.le_refl _, fun _ => ⟨rfl, rfl, hgen, hlast, Int.le_refl _, ?_⟩⟩⟩
          rw [hc, hall]
          show _ = _ + (0 : Int)
          omega
        · rw [b1] at f1 f3
          rw [if_pos (by decide)] at f3
          rw [f1, f2, f3, if_neg (by decide)]
          exact Inv.overA [] (fun _ => b3) (hO.same b4) (hY.same b4) (by rw [List.append_nil]; exact hall) hsafe (endL_over (by decide))
theorem fuse_step {s : DS} {L : LS} {T : ByteArray} {all : List ByteArray} {safe : Nat} {next : List ByteArray} (h : Inv s L T all safe next) (n : Int) : Inv (fusS s n) L T all safe next := by
  unfold fusS
  by_cases ho : s.off = true
  · rw [if_pos ho]; exact h
  · rw [if_neg ho]
    have ho2 : s.off = false := by simpa using ho
    refine ⟨fun e => absurd e ho, ?_⟩
    rcases h.2 with ⟨g, n, D, q, x, vain, hA⟩ | ⟨g, S, hB⟩
    · have hx := hA.xf (.inr ho2)
      subst hx
      exact .inl ⟨g, n, D, q, false, vain, hA.old.same rfl, hA.only.same rfl, fun e => (by cases e), hA.al, hA.sf, hA.live⟩
    · exact absurd hB.off ho
theorem cut_step {s : DS} {L : LS} {T : ByteArray} {all : List ByteArray} {safe : Nat} {next : List ByteArray} (h : Inv s L T all safe next) : Inv (cutS s) L T all safe next := by
  unfold cutS
  by_cases ho : s.off = true
  · rw [if_pos ho]; exact h
  · rw [if_neg ho]
    have ho2 : s.off = false := by simpa using ho
    refine ⟨fun _ => rfl, ?_⟩
    rcases h.2 with ⟨g, n, D, q, x, vain, hA⟩ | ⟨g, S, hB⟩
    · have hx := hA.xf (.inr ho2)
      subst hx
      exact .inl ⟨g, n, D, q, false, vain, hA.old.same rfl, hA.only.same rfl, fun e => (by cases e), hA.al, hA.sf, hA.live⟩
    · exact absurd hB.off ho
end Go.Proofs.YtdmjbdecemajpaaDoor.D
namespace Go.Proofs.YtdmjbdecemajpaaDoor.D
set_option linter.unusedVariables false
set_option linter.unusedSimpArgs false
open Go.RowKit
/-- a generation's files are removed: all of them, or the power goes -/
theorem remDn_spec (g : Int) (hg : 1 ≤ g ∧ g ≤ 9999) : ∀ (c : Nat) (s : DS), c ≤ 100 → s.off = false → M.Nodup s.files → (∀ i : Nat, i < c → (M.get s.files (g * 100 + i)).isSome = true) →
    ((remDn g c s).1 = 0 ∧ (remDn g c s).2.off = false ∧ ∀ a, M.get (remDn g c s).2.files a = if g * 100 ≤ a ∧ a < g * 100 + c then none else M.get s.files a) ∨
    ((remDn g c s).1 = 6 ∧ (remDn g c s).2.off = true ∧ (remDn g c s).2.fuse = 0 ∧ ∀ a, M.get (remDn g c s).2.files a = M.get s.files a ∨ (M.get (remDn g c s).2.files a = none ∧ g * 100 ≤ a ∧ a < g * 100 + c))
  | 0, s, _, ho, _, _ => .inl ⟨rfl, ho, fun a => by rw [if_neg (by omega)]; rfl⟩
  | c + 1, s, hc, ho, hN, hm => by
    have hs := hm c (by omega)
    have h0 : mayE s (g * 100 + c) true = 0 := may_ok ho (by omega) (fun _ => hs)
    have st := step_off' s
    have eE : remE s (g * 100 + c) = stepE s := by
      unfold remE synE
      rw [if_neg (by rw [h0]; decide)]
    have eS : remS s (g * 100 + c) = (if stepE s ≠ 0 then stepS s else (stepS s).del (g * 100 + c)) := by
      unfold remS
      rw [if_neg (by rw [h0]; decide)]
    rw [remDn, eE, eS]
    rcases st.2.1 with e | e
    · rw [e, if_neg (by decide), if_neg (by decide)]
      have hf : ((stepS s).del (g * 100 + c)).files = M.del s.files (g * 100 + c) := by show M.del (stepS s).files _ = _; rw [stepS_files]
      have hoff : ((stepS s).del (g * 100 + c)).off = false := (st.2.2.1 e).trans ho
      rcases remDn_spec g hg c ((stepS s).del (g * 100 + c)) (by omega) hoff (by rw [hf]; exact M.nodup_del hN _) (fun i hi => by rw [hf, M.get_del hN, if_neg (by omega)]; exact hm i (by omega)) with ⟨r1, r2, r3⟩ | ⟨r1, r2, r3, r4⟩
      · refine .inl ⟨r1, r2, fun a => ?_⟩
        rw [r3, hf, M.get_del hN]
        by_cases e1 : a = g * 100 + c
        · subst e1
          rw [if_neg (by omega), if_pos rfl, if_pos (by omega)]
        · rw [if_neg e1]
          by_cases e2 : g * 100 ≤ a ∧ a < g * 100 + c
          · rw [if_pos e2, if_pos (by omega)]
          · rw [if_neg e2, if_neg (by omega)]
      · refine .inr ⟨r1, r2, r3, fun a => ?_⟩
        rcases r4 a with r5 | ⟨r5, r6⟩
        · rw [hf, M.get_del hN] at r5
          by_cases e1 : a = g * 100 + c
          · rw [if_pos e1] at r5; exact .inr ⟨r5, by omega, by omega⟩
          · rw [if_neg e1] at r5; exact .inl r5
        · exact .inr ⟨r5, by omega, by omega⟩
    · rw [e, if_pos (by decide), if_pos (by decide)]
      exact .inr ⟨rfl, (st.2.2.2 e).1, (st.2.2.2 e).2, fun a => .inl (by show M.get (stepS s).files a = _; rw [stepS_files])⟩
theorem Old.next {s s' : DS} {g : Int} {T : ByteArray} {n : Nat} {D : Nat → List ByteArray} {q : Nat} {f : Fl} (h : Old s g T n D q) (hf : s'.files = M.put s.files ((g + 1) * 100) f) : Old s' g T n D q := by
  have hn := h.nn
  refine ⟨h.gr, h.tt, h.nn, h.sm, h.ps, ?_, fun i hi => ?_, fun K hK => ?_, h.zero⟩
  · rw [hf, M.get_put, if_neg (by omega)]; exact h.hd
  · rw [hf, M.get_put, if_neg (by omega)]; exact h.full i hi
  · rw [hf, M.get_put, if_neg (by omega)]; exact h.last K hK
theorem Only.next {s s' : DS} {g : Int} {n : Nat} {f : Fl} (h : Only s g n false) (hf : s'.files = M.put s.files ((g + 1) * 100) f) : Only s' g n true := fun a ha => by
  rw [hf, M.get_put] at ha
  by_cases e : a = (g + 1) * 100
  · exact .inr ⟨rfl, e⟩
  · rw [if_neg e] at ha
    rcases h a ha with h1 | ⟨h1, _⟩
    · exact .inl h1
    · cases h1
theorem Old.there {s : DS} {g : Int} {T : ByteArray} {n : Nat} {D : Nat → List ByteArray} {q : Nat} (h : Old s g T n D q) (i : Nat) (hi : i < n + 1) : (M.get s.files (g * 100 + i)).isSome = true := by
  cases i with
  | zero => rw [show g * 100 + ((0 : Nat) : Int) = g * 100 by omega, h.hd]; rfl
  | succ i =>
    rw [show g * 100 + ((i + 1 : Nat) : Int) = g * 100 + ((i : Int) + 1) by omega]
    by_cases e : i + 1 < n
    · rw [h.full i e]; rfl
    · rw [(h.last i (by omega)).1]; rfl
theorem renew_step {s : DS} {L : LS} {T : ByteArray} {all : List ByteArray} {safe : Nat} {next : List ByteArray} {k : Nat} (hO : Okk s k) (h : Inv s L T all safe next) (t : ByteArray) (ht : t.size ≤ 300) :
    (wreE s L t = 0 → Inv (wreS s L t) (wreL s L t) t [] 0 next) ∧ (wreE s L t = 6 → Inv (wreS s L t) (wreL s L t) T all safe (next ++ [t])) ∧ (wreE s L t ≠ 0 → wreE s L t ≠ 6 → Inv (wreS s L t) (wreL s L t) T all safe next) := by
  have hb : ¬ 65536 < t.size := by omega
  have f1 : wreE s L t = (if L.over = true then 11 else if L.gen = 9999 then 9 else if layE s (L.gen + 1) t ≠ 0 then layE s (L.gen + 1) t else (remDn L.gen (L.last.toNat + 1) (layS' s (L.gen + 1) t)).1) := if_neg hb
  have f2 : wreS s L t = (if L.over = true then s else if L.gen = 9999 then s else if layE s (L.gen + 1) t ≠ 0 then layS' s (L.gen + 1) t else (remDn L.gen (L.last.toNat + 1) (layS' s (L.gen + 1) t)).2) := if_neg hb
  have f3 : wreL s L t = (if L.over = true then L else if L.gen = 9999 then L else if layE s (L.gen + 1) t ≠ 0 then endL L (layE s (L.gen + 1) t) else if (remDn L.gen (L.last.toNat + 1) (layS' s (L.gen + 1) t)).1 ≠ 0 then endL L (remDn L.gen (L.last.toNat + 1) (layS' s (L.gen + 1) t)).1 else ⟨L.gen + 1, t, [], 0, 0, false⟩) := if_neg hb
  cases ho : L.over with
  | true =>
    rw [if_pos ho] at f1 f2 f3
    rw [f1, f2, f3]
    exact ⟨fun e => (by cases e), fun e => (by cases e), fun _ _ => h⟩
  | false =>
    have ho' : ¬ L.over = true := by rw [ho]; decide
    rw [if_neg ho'] at f1 f2 f3
    obtain ⟨g, n, D, q, hD, hY, hall, hsafe, hnext, hgen, hlast, hp0, hlen⟩ := h.liveA ho
    subst hnext
    by_cases h99 : L.gen = 9999
    · rw [if_pos h99] at f1 f2 f3
      rw [f1, f2, f3]
      exact ⟨fun e => (by cases e), fun e => (by cases e), fun _ _ => h⟩
    rw [if_neg h99] at f1 f2 f3
    rw [hgen] at f1 f2 f3 h99
    rw [show L.last.toNat = n by omega] at f1 f2 f3
    have hgr := hD.gr
    have hnn := hD.nn
    have hg1 : g + 1 ≤ 9999 := by omega
    -- a failure that leaves the files as they are
    have bad : ∀ (E : Int), E ≠ 0 → layE s (g + 1) t = E → layS' s (g + 1) t = s → wreE s L t = E ∧ wreS s L t = s ∧ wreL s L t = endL L E := fun E hE e1 e2 => by
      rw [f1, f2, f3, e1, e2]
      exact ⟨if_pos hE, if_pos hE, if_pos hE⟩
    cases hoff : s.off with
    | true =>
      obtain ⟨a1, a2⟩ := app_off (no := (g + 1) * 100) (F := frm t) hoff
      have l1 : layE s (g + 1) t = 6 := by unfold layE; rw [a1]; rfl
      have l2 : layS' s (g + 1) t = s := by unfold layS'; rw [a1, if_pos (by decide)]; exact a2
      obtain ⟨b1, b2, b3⟩ := bad 6 (by decide) l1 l2
      rw [b1, b2, b3]
      exact ⟨fun e => (by cases e), fun _ => Inv.overA [] h.1 hD hY (by rw [List.append_nil]; exact hall) hsafe (endL_over (by decide)), fun _ e => absurd rfl e⟩
    | false =>
      have hnone : M.get s.files ((g + 1) * 100) = none := by
        cases hx : M.get s.files ((g + 1) * 100) with
        | none => rfl
        | some f =>
          rcases hY _ (by rw [hx]; rfl) with h1 | ⟨h1, _⟩
          · omega
          · cases h1
      rcases app_new (F := frm t) hoff (by omega) hnone (by rw [frm_size]; omega) with ⟨e1, e2⟩ | ⟨e1, e2⟩
      · have l1 : layE s (g + 1) t = 9 := by unfold layE; rw [e1]; rfl
        have l2 : layS' s (g + 1) t = s := by unfold layS'; rw [e1, if_pos (by decide)]; exact e2
        obtain ⟨b1, b2, b3⟩ := bad 9 (by decide) l1 l2
        rw [b1, b2, b3]
        exact ⟨fun e => (by cases e), fun e => (by cases e), fun _ _ => Inv.overA [] h.1 hD hY (by rw [List.append_nil]; exact hall) hsafe (endL_over (by decide))⟩
      · obtain ⟨s1, hs1⟩ : ∃ s1, appS s ((g + 1) * 100) (frm t) = s1 := ⟨_, rfl⟩
        rw [hs1] at e1 e2
        -- the new file is there, not safe, and the power is gone
        have half : ∀ s2 : DS, s2.files = s1.files → s2.off = true → s2.fuse = 0 → layE s (g + 1) t = 6 → layS' s (g + 1) t = s2 → (wreE s L t = 0 → Inv (wreS s L t) (wreL s L t) t [] 0 []) ∧ (wreE s L t = 6 → Inv (wreS s L t) (wreL s L t) T all safe ([] ++ [t])) ∧ (wreE s L t ≠ 0 → wreE s L t ≠ 6 → Inv (wreS s L t) (wreL s L t) T all safe []) := fun s2 hfi hof hfu l1 l2 => by
          have b1 : wreE s L t = 6 := by rw [f1, l1]; rfl
          have b2 : wreS s L t = s2 := by rw [f2, l1, if_pos (by decide)]; exact l2
          have b3 : wreL s L t = endL L 6 := by rw [f3, l1]; rfl
          rw [b1, b2, b3]
          refine ⟨fun e => (by cases e), fun _ => ⟨fun _ => hfu, .inl ⟨g, n, D, q, true, [], hD.next (hfi.trans e1), hY.next (hfi.trans e1), fun _ => ⟨t, 0, by rw [hfi, e1, M.get_put, if_pos rfl], Nat.zero_le _, ht, hg1, rfl, endL_over (by decide), hof⟩, by rw [List.append_nil]; exact hall, hsafe, fun e => ?_⟩⟩, fun _ e => absurd rfl e⟩
          have : (endL L 6).over = true := endL_over (by decide)
          rw [this] at e; cases e
        rcases e2.e with e0 | e6
        · have hon := e2.on e0
          have hf1 : M.get s1.files ((g + 1) * 100) = some ⟨frm t, 0⟩ := by rw [e1, M.get_put, if_pos rfl]
          have l1 : layE s (g + 1) t = synE s1 ((g + 1) * 100) := by unfold layE; rw [e0, hs1]; rfl
          have l2 : layS' s (g + 1) t = synS s1 ((g + 1) * 100) := by unfold layS'; rw [e0, hs1]; rfl
          rcases syn_any' hon (by omega) hf1 with ⟨c1, c2, c3⟩ | ⟨c1, c2, c3, c4⟩
          · have hOk := hO.lay (g + 1) t
            obtain ⟨s2, hs2⟩ : ∃ s2, synS s1 ((g + 1) * 100) = s2 := ⟨_, rfl⟩
            rw [l2, hs2] at hOk
            rw [hs2] at c2 c3 l2
            rw [c1] at l1
            have hget : ∀ a, M.get s2.files a = if a = (g + 1) * 100 then some ⟨frm t, (frm t).size⟩ else M.get s.files a := fun a => by
              rw [c3, M.get_put, e1, M.get_put]
              split <;> rfl
            rw [l1, if_neg (by decide), l2] at f1 f2 f3
            have hR := remDn_spec g hgr (n + 1) s2 (by omega) c2 hOk.nd (fun i hi => by rw [hget, if_neg (by omega)]; exact hD.there i hi)
            obtain ⟨R, hRR⟩ : ∃ R, remDn g (n + 1) s2 = R := ⟨_, rfl⟩
            rw [hRR] at hR f1 f2 f3
            rw [f1, f2, f3]
            rcases hR with ⟨r1, r2, r3⟩ | ⟨r1, r2, r3, r4⟩
            · rw [r1, if_neg (show ¬ ((0 : Int) ≠ 0) by decide)]
              refine ⟨fun _ => ⟨fun e => (by rw [r2] at e; cases e), .inl ⟨g + 1, 0, D, 0, false, [], ⟨by omega, by omega, by omega, fun i hi => absurd hi (by omega), fun i hi => absurd hi (by omega), ?_, fun i hi => absurd hi (by omega), fun K hK => absurd hK (by omega), fun _ => rfl⟩, fun a ha => ?_, fun e => (by cases e), rfl, Nat.zero_le _, fun _ => ⟨rfl, rfl, rfl, rfl, Int.le_refl _, rfl⟩⟩⟩, fun e => (by cases e), fun e => absurd rfl e⟩
              · rw [r3, if_neg (by omega), hget, if_pos rfl]
              · rw [r3] at ha
                by_cases e1 : g * 100 ≤ a ∧ a < g * 100 + ((n + 1 : Nat) : Int)
                · rw [if_pos e1] at ha; cases ha
                · rw [if_neg e1, hget] at ha
                  by_cases e2 : a = (g + 1) * 100
                  · exact .inl (by omega)
                  · rw [if_neg e2] at ha
                    rcases hY a ha with h1 | ⟨h1, _⟩
                    · omega
                    · cases h1
            · rw [r1, if_pos (show (6 : Int) ≠ 0 by decide)]
              refine ⟨fun e => (by cases e), fun _ => ⟨fun _ => r3, .inr ⟨g, t, endL_over (by decide), r2, by omega, ht, ?_, fun a ha => ?_, rfl⟩⟩, fun _ e => absurd rfl e⟩
              · rcases r4 ((g + 1) * 100) with r5 | ⟨_, r6⟩
                · rw [r5, hget, if_pos rfl]
                · omega
              · rcases r4 a with r5 | ⟨r5, _⟩
                · rw [r5, hget] at ha
                  by_cases e2 : a = (g + 1) * 100
                  · exact .inr e2
                  · rw [if_neg e2] at ha
                    rcases hY a ha with h1 | ⟨h1, _⟩
                    · exact .inl (by omega)
                    · cases h1
                · rw [r5] at ha; cases ha
          · exact half (synS s1 ((g + 1) * 100)) c4 c2 c3 (l1.trans c1) l2
        · have l1 : layE s (g + 1) t = 6 := by unfold layE; rw [e6]; rfl
          have l2 : layS' s (g + 1) t = s1 := by unfold layS'; rw [e6, if_pos (by decide), hs1]
          exact half s1 rfl (e2.off e6).1 (e2.off e6).2 l1 l2
end Go.Proofs.YtdmjbdecemajpaaDoor.D
namespace Go.Proofs.YtdmjbdecemajpaaDoor.D
set_option linter.unusedVariables false
set_option linter.unusedSimpArgs false
open Go.RowKit
theorem start_spec {s : DS} {k : Nat} (hO : Okk s k) (ho : s.off = true) (hf : s.fuse = 0) (picks : List Int) : Live (staS s picks) ∧ (∀ a, M.get s.files a = none → M.get (staS s picks).files a = none) ∧ ∀ a f, M.get s.files a = some f → ∃ f', M.get (staS s picks).files a = some f' ∧ Stays f f' := by
  obtain ⟨i1, i2, _⟩ := sta_spec picks s.keys s.files 0 (keys_nd hO.nd) (fun a ha => (keys_mem a).1 ha) hO.fl hO.nd
  unfold staS
  rw [if_pos ho]
  refine ⟨⟨rfl, hf⟩, fun a ha => ?_, fun a f ha => ?_⟩
  · show M.get (staF picks s.keys s.files 0) a = none
    rw [i1 a (fun hm => by have := (keys_mem a).1 hm; rw [ha] at this; cases this)]
    exact ha
  · obtain ⟨f1, f', h1, h2, h3⟩ := i2 a ((keys_mem a).2 (by rw [ha]; rfl))
    rw [ha] at h1
    cases h1
    exact ⟨f', h2, h3⟩
theorem stays_full {d : ByteArray} {f' : Fl} (h : Stays ⟨d, d.size⟩ f') : f' = ⟨d, d.size⟩ := by
  obtain ⟨h1, h2, h3, h4⟩ := h
  obtain ⟨d', z⟩ := f'
  replace h1 : d.size ≤ z := h1
  replace h2 : z = d'.size := h2
  replace h3 : d'.size ≤ d.size := h3
  replace h4 : d' = d.extract 0 d'.size := h4
  have e : d'.size = d.size := by omega
  rw [e, ext_self] at h4
  rw [h4, h2, h4]
/-- what Open leaves: all is safe -/
def Fin (s : DS) (L : LS) : Prop := L.over = false ∧ L.pend = 0 ∧ ∃ n D q, L.last = ((n : Nat) : Int) ∧ Old s L.gen L.text n D q ∧ Only s L.gen n false ∧ cat D n = L.recs ∧ cnt D n q = L.recs.length
theorem Fin.inv {s : DS} {L : LS} (h : Fin s L) (hL : Live s) : Inv s L L.text L.recs L.recs.length [] := by
  obtain ⟨h1, h2, n, D, q, h3, h4, h5, h6, h7⟩ := h
  exact ⟨fun _ => hL.fuse, .inl ⟨L.gen, n, D, q, false, [], h4, h5, fun e => (by cases e), by rw [h6, List.append_nil], by rw [h7]; exact Nat.le_refl _, fun _ => ⟨rfl, rfl, rfl, h3, by omega, by rw [h7, h2]; omega⟩⟩⟩
theorem Fin.again {s : DS} {L : LS} {k : Nat} (hO : Okk s k) (hL : Live s) (h : Fin s L) : ∃ s', openP s = ⟨0, s', some L⟩ ∧ Live s' ∧ Fin s' L := by
  obtain ⟨h1, h2, n, D, q, h3, h4, h5, h6, h7⟩ := h
  obtain ⟨s', o1, o2, ⟨D', q', o3, o4, o5⟩, o6⟩ := openSafe hO hL h4 h5
  obtain ⟨g, t, r, l, p, o⟩ := L
  replace h1 : o = false := h1
  replace h2 : p = 0 := h2
  replace h3 : l = n := h3
  replace h6 : cat D n = r := h6
  subst h1 h2 h3 h6
  exact ⟨s', o1, o2, rfl, rfl, n, D', q', rfl, o3, o6, o4, o5⟩
theorem startZ {s1 : DS} {k : Nat} {g : Int} {S : ByteArray} (hO : Okk s1 k) (hL : Live s1) (gr : 1 ≤ g ∧ g ≤ 9999) (hS : S.size ≤ 300) (hd : M.get s1.files (g * 100) = some ⟨frm S, (frm S).size⟩) (h1 : (M.get s1.files (g * 100 + 1)).isSome = false)
    (hs : ∀ a, (M.get s1.files a).isSome = true → g * 100 < a → a % 100 ≠ 0 ∨ whole (s1.fl a).data = false) : ∃ s2, openP s1 = ⟨0, s2, some ⟨g, S, [], 0, 0, false⟩⟩ ∧ Live s2 ∧ Fin s2 ⟨g, S, [], 0, 0, false⟩ := by
  obtain ⟨s2, o1, o2, o3, o4⟩ := openZ hO hL gr hS hd h1 hs
  exact ⟨s2, o1, o2, rfl, rfl, 0, fun _ => [], 0, rfl, o3 _, o4, rfl, rfl⟩
theorem start_step {s : DS} {L : LS} {T : ByteArray} {all : List ByteArray} {safe : Nat} {next : List ByteArray} {k : Nat} (hO : Okk s k) (h : Inv s L T all safe next) (hoff : s.off = true) (picks : List Int) :
    ∃ s2 L1, openP (staS s picks) = ⟨0, s2, some L1⟩ ∧ Live s2 ∧ Fin s2 L1 ∧ ((L1.text = T ∧ safe ≤ L1.recs.length ∧ ∃ r, all = L1.recs ++ r) ∨ (next.getLast? = some L1.text ∧ L1.recs = [])) ∧ L1.recs.length ≤ all.length := by
  obtain ⟨hL, hnone, hsome⟩ := start_spec hO hoff (h.1 hoff) picks
  have hO1 := hO.sta picks
  obtain ⟨s1, hs1⟩ : ∃ s1, staS s picks = s1 := ⟨_, rfl⟩
  rw [hs1] at hL hnone hsome hO1 ⊢
  have hback : ∀ a, (M.get s1.files a).isSome = true → (M.get s.files a).isSome = true := fun a ha => by
    cases hx : M.get s.files a with
    | some f => rfl
    | none => rw [hnone a hx] at ha; cases ha
  have hfull : ∀ a d, M.get s.files a = some ⟨d, d.size⟩ → M.get s1.files a = some ⟨d, d.size⟩ := fun a d ha => by
    obtain ⟨f', h1, h2⟩ := hsome a _ ha
    rw [h1, stays_full h2]
  rcases h.2 with ⟨g, n, D, q, x, vain, hA⟩ | ⟨g, S, hB⟩
  · have hgr := hA.old.gr
    have hnn := hA.old.nn
    have hd := hfull _ _ hA.old.hd
    have hY : Only s1 g n x := fun a ha => hA.only a (hback a ha)
    -- the next generation's file is no whole one
    have main : (x = true → whole (s1.fl ((g + 1) * 100)).data = false) → ∃ s2 L1, openP s1 = ⟨0, s2, some L1⟩ ∧ Live s2 ∧ Fin s2 L1 ∧ ((L1.text = T ∧ safe ≤ L1.recs.length ∧ ∃ r, all = L1.recs ++ r) ∨ (next.getLast? = some L1.text ∧ L1.recs = [])) ∧ L1.recs.length ≤ all.length := fun hx => by
      cases n with
      | zero =>
        obtain ⟨s2, o1, o2, o3⟩ := startZ hO1 hL hgr hA.old.tt hd (by
          cases hz : (M.get s1.files (g * 100 + 1)).isSome with
          | false => rfl
          | true =>
            rcases hY _ hz with h1 | ⟨_, h1⟩
            · exfalso; have := h1.2; simp at this; omega
            · omega) (fun a ha hlt => by
          rcases hY a ha with h1 | ⟨h1, e⟩
          · exfalso; have := h1.2; simp at this; omega
          · subst e; exact .inr (hx h1))
        refine ⟨s2, _, o1, o2, o3, .inl ⟨rfl, ?_, all, rfl⟩, Nat.zero_le _⟩
        have := hA.sf
        rw [hA.old.zero rfl] at this
        exact this
      | succ N =>
        obtain ⟨hl, hq⟩ := hA.old.last N rfl
        obtain ⟨f', h1, h2, h3, h4, h5⟩ := hsome _ _ hl
        obtain ⟨p, z⟩ := f'
        replace h2 : (packs ((D N).take q)).size ≤ z := h2
        replace h3 : z = p.size := h3
        replace h4 : p.size ≤ (packs (D N)).size := h4
        replace h5 : p = (packs (D N)).extract 0 p.size := h5
        obtain ⟨j, c1, c2⟩ := cut_of (D N) (fun b hb => Nat.le_trans (hA.old.sm N (by omega) b hb) (by decide)) p.size h4
        rw [← h5] at c1
        have hqj := c2 q hq (by omega)
        obtain ⟨s2, o1, o2, o3, o4⟩ := openA hO1 hL hgr hA.old.tt hnn hA.old.sm hA.old.ps hd (fun i hi => hfull _ _ (hA.old.full i hi)) h1 c1 hY hx
        have hlen : (cat D N ++ (D N).take j).length = (cat D N).length + j := by rw [List.length_append, List.length_take, Nat.min_eq_left c1.le]
        have hall : all = (cat D N ++ (D N).take j) ++ ((D N).drop j ++ vain) := by
          rw [hA.al, cat_succ, List.append_assoc, List.append_assoc, ← List.append_assoc ((D N).take j), List.take_append_drop]
        refine ⟨s2, _, o1, o2, ⟨rfl, rfl, N + 1, _, _, rfl, o3, o4, by rw [cat_succ, cat_upd, upd_at], ?_⟩, .inl ⟨rfl, ?_, _, hall⟩, ?_⟩
        · show (cat (upd D N ((D N).take j)) N).length + _ = _
          rw [cat_upd, List.length_append]
        · have hs : safe ≤ (cat D N).length + q := hA.sf
          show safe ≤ (cat D N ++ (D N).take j).length
          omega
        · have hle := congrArg List.length hall
          rw [List.length_append] at hle
          show (cat D N ++ (D N).take j).length ≤ all.length
          omega
    cases x with
    | false => exact main (fun e => by cases e)
    | true =>
      obtain ⟨S, z0, e1, e2, e3, e4, e5, _, _⟩ := hA.ex rfl
      obtain ⟨f', h1, h2, h3, h4, h5⟩ := hsome _ _ e1
      obtain ⟨p, z⟩ := f'
      replace h3 : z = p.size := h3
      replace h4 : p.size ≤ (frm S).size := h4
      replace h5 : p = (frm S).extract 0 p.size := h5
      by_cases hw : p.size = (frm S).size
      · rw [hw, ext_self] at h5
        subst h5
        subst h3
        obtain ⟨s2, o1, o2, o3⟩ := startZ hO1 hL (g := g + 1) (by omega) e3 h1 (by
          cases hz : (M.get s1.files ((g + 1) * 100 + 1)).isSome with
          | false => rfl
          | true =>
            rcases hY _ hz with h1 | ⟨_, h1⟩
            · omega
            · omega) (fun a ha hlt => by
          rcases hY a ha with h1 | ⟨h1, e⟩
          · omega
          · omega)
        exact ⟨s2, _, o1, o2, o3, .inr ⟨e5, rfl⟩, Nat.zero_le _⟩
      · refine main (fun _ => ?_)
        rw [fl_of h1]
        show whole p = false
        rw [h5]
        exact whole_cut S (by omega) p.size (by omega)
  · have hgr := hB.gr
    have hd := hfull _ _ hB.hd
    obtain ⟨s2, o1, o2, o3⟩ := startZ hO1 hL (g := g + 1) (by omega) hB.sz hd (by
      cases hz : (M.get s1.files ((g + 1) * 100 + 1)).isSome with
      | false => rfl
      | true =>
        rcases hB.oth _ (hback _ hz) with h1 | h1
        · omega
        · omega) (fun a ha hlt => by
      rcases hB.oth a (hback a ha) with h1 | h1
      · omega
      · omega)
    exact ⟨s2, _, o1, o2, o3, .inr ⟨hB.next, rfl⟩, Nat.zero_le _⟩
end Go.Proofs.YtdmjbdecemajpaaDoor.D
