/- The disk, plain: what every disk keeps to, whatever calls come; what is safe stays. No walk. -/
import Derived.Test.YtdmjbdecemajpaaDoorDkP
namespace Go.Proofs.YtdmjbdecemajpaaDoor.D
set_option linter.unusedVariables false
set_option linter.unusedSimpArgs false
open Go.RowKit
/-- a call: 1 Append of s, 2 Sync, 3 Trim to n, 4 Remove, 5 Fuse of n, 6 Cut, 7 Start by picks -/
structure Pl where
  kind : Int
  no : Int
  n : Int
  s : ByteArray
  picks : List Int
def doesE (s : DS) (x : Pl) : Int := if x.kind = 1 then appE s x.no x.s else if x.kind = 2 then synE s x.no else if x.kind = 3 then triE s x.no x.n else if x.kind = 4 then remE s x.no else if x.kind = 5 then fusE s else if x.kind = 6 then fusE s else if x.kind = 7 then staE s else 0
def doesS (s : DS) (x : Pl) : DS := if x.kind = 1 then appS s x.no x.s else if x.kind = 2 then synS s x.no else if x.kind = 3 then triS s x.no x.n else if x.kind = 4 then remS s x.no else if x.kind = 5 then fusS s x.n else if x.kind = 6 then cutS s else if x.kind = 7 then staS s x.picks else s
/-- one file's sizes -/
def OkF (p : Int × Fl) : Prop := (1 ≤ p.1 ∧ p.1 ≤ 1000000) ∧ p.2.safe ≤ p.2.data.size ∧ p.2.data.size ≤ 1048576
structure Okk (s : DS) (k : Nat) : Prop where
  nd : M.Nodup s.files
  len : s.files.length ≤ 110
  fl : ∀ p ∈ s.files, OkF p
  fuse : 0 ≤ s.fuse ∧ s.fuse ≤ 9223372036854775807
  steps : 0 ≤ s.steps ∧ s.steps ≤ k
theorem get_mem {V : Type} : ∀ {l : List (Int × V)} {a : Int} {v : V}, M.get l a = some v → (a, v) ∈ l
  | p :: l, a, v, h => by
    unfold M.get at h
    by_cases e : a = p.1
    · rw [if_pos e] at h
      cases h
      exact List.mem_cons.2 (.inl (by rw [e]))
    · rw [if_neg e] at h
      exact List.mem_cons_of_mem _ (get_mem h)
theorem mem_put' {l : FM} {a : Int} {f : Fl} {p : Int × Fl} (h : p ∈ M.put l a f) : p = (a, f) ∨ p ∈ l := by
  induction l with
  | nil => simp [M.put] at h; exact .inl h
  | cons q l ih =>
    unfold M.put at h
    by_cases e : a = q.1
    · rw [if_pos e] at h
      rcases List.mem_cons.1 h with h1 | h1
      · exact .inl (by rw [h1, e])
      · exact .inr (List.mem_cons_of_mem _ h1)
    · rw [if_neg e] at h
      rcases List.mem_cons.1 h with h1 | h1
      · exact .inr (by rw [h1]; exact List.mem_cons_self)
      · rcases ih h1 with h2 | h2
        · exact .inl h2
        · exact .inr (List.mem_cons_of_mem _ h2)
theorem fl_ok {M' : FM} (h : ∀ p ∈ M', OkF p) (no : Int) : ((M.get M' no).getD fl0).safe ≤ ((M.get M' no).getD fl0).data.size ∧ ((M.get M' no).getD fl0).data.size ≤ 1048576 := by
  cases hg : M.get M' no with
  | none => exact ⟨Nat.le_refl _, Nat.zero_le _⟩
  | some f => exact (h _ (get_mem hg)).2
theorem Okk.mono {s : DS} {k j : Nat} (h : Okk s k) (hk : k ≤ j) : Okk s j := { h with steps := ⟨h.steps.1, by have := h.steps.2; omega⟩ }
theorem Okk.step {s : DS} {k : Nat} (h : Okk s k) : Okk (stepS s) (k + 1) := by
  have h1 := h.fuse
  have h2 := h.steps
  unfold stepS
  split
  · exact ⟨h.nd, h.len, h.fl, ⟨Int.le_refl _, by show (0 : Int) ≤ _; omega⟩, by show 0 ≤ s.steps + 1 ∧ s.steps + 1 ≤ _; omega⟩
  · exact ⟨h.nd, h.len, h.fl, by show 0 ≤ max 0 (s.fuse - 1) ∧ max 0 (s.fuse - 1) ≤ _; omega, by show 0 ≤ s.steps + 1 ∧ s.steps + 1 ≤ _; omega⟩
theorem put_fl {s : DS} {no : Int} {f : Fl} (h : ∀ p ∈ s.files, OkF p) (hf : OkF (no, f)) : ∀ p ∈ (s.put no f).files, OkF p := fun p hp => by
  rcases mem_put' hp with h1 | h1
  · rw [h1]; exact hf
  · exact h p h1
theorem len_put (s : DS) (no : Int) (f : Fl) : (s.put no f).files.length = if (M.get s.files no).isSome then s.files.length else s.files.length + 1 := M.length_put _ _ _
theorem may_range {s : DS} {no : Int} {t : Bool} (h : mayE s no t = 0) : s.off = false ∧ (1 ≤ no ∧ no ≤ 1000000) ∧ (t = true → (M.get s.files no).isSome = true) := by
  unfold mayE at h
  cases ho : s.off
  · rw [ho, if_neg Bool.false_ne_true] at h
    by_cases hn : no < 1 ∨ 1000000 < no
    · rw [if_pos hn] at h; cases h
    · rw [if_neg hn] at h
      by_cases hb : t = true ∧ (M.get s.files no).isSome = false
      · rw [if_pos hb] at h; cases h
      · exact ⟨rfl, by omega, fun ht => by cases hs : (M.get s.files no).isSome; exact absurd ⟨ht, hs⟩ hb; rfl⟩
  · rw [ho, if_pos rfl] at h; cases h
theorem stepS_files' (s : DS) : (stepS s).files = s.files := by unfold stepS; split <;> rfl
theorem Okk.put {s : DS} {k : Nat} (h : Okk s k) (no : Int) (f : Fl) (hf : OkF (no, f)) (hl : (M.get s.files no).isSome = true ∨ s.files.length < 110) : Okk (s.put no f) k :=
  ⟨M.nodup_put h.nd no f, by rw [len_put]; have := h.len; rcases hl with h1 | h1; rw [if_pos h1]; exact this; split <;> omega, put_fl h.fl hf, h.fuse, h.steps⟩
theorem Okk.app {s : DS} {k : Nat} (h : Okk s k) (no : Int) (t : ByteArray) : Okk (appS s no t) (k + 1) := by
  unfold appS
  by_cases h0 : mayE s no false = 0
  · rw [if_neg (by rw [h0]; decide)]
    obtain ⟨h1, h2, _⟩ := may_range h0
    by_cases hb : 1048576 < (s.fl no).data.size + t.size
    · rw [if_pos hb]; exact h.mono (by omega)
    · rw [if_neg hb]
      by_cases hf : (M.get s.files no).isSome = false ∧ 110 ≤ s.files.length
      · rw [if_pos hf]; exact h.mono (by omega)
      · rw [if_neg hf]
        have hd := fl_ok h.fl no
        refine (h.put no _ ⟨h2, ?_, ?_⟩ ?_).step
        · show (s.fl no).safe ≤ ((s.fl no).data ++ t).size
          rw [ByteArray.size_append]; have := hd.1; unfold DS.fl; omega
        · show ((s.fl no).data ++ t).size ≤ 1048576
          rw [ByteArray.size_append]; omega
        · cases hs : (M.get s.files no).isSome
          · exact .inr (by rcases Nat.lt_or_ge s.files.length 110 with h3 | h3; exact h3; exact absurd ⟨hs, h3⟩ hf)
          · exact .inl rfl
  · rw [if_pos h0]; exact h.mono (by omega)
theorem Okk.syn {s : DS} {k : Nat} (h : Okk s k) (no : Int) : Okk (synS s no) (k + 1) := by
  unfold synS
  by_cases h0 : mayE s no true = 0
  · rw [if_neg (by rw [h0]; decide)]
    obtain ⟨h1, h2, h3⟩ := may_range h0
    have hd := fl_ok h.fl no
    split
    · exact h.step
    · exact h.step.put no _ ⟨h2, Nat.le_refl _, hd.2⟩ (.inl (by rw [stepS_files']; exact h3 rfl))
  · rw [if_pos h0]; exact h.mono (by omega)
theorem Okk.tri {s : DS} {k : Nat} (h : Okk s k) (no z : Int) : Okk (triS s no z) (k + 1) := by
  unfold triS
  by_cases h0 : mayE s no true = 0
  · rw [if_neg (by rw [h0]; decide)]
    obtain ⟨h1, h2, h3⟩ := may_range h0
    have hd := fl_ok h.fl no
    by_cases hz : z < 0 ∨ ((s.fl no).data.size : Int) < z
    · rw [if_pos hz]; exact h.mono (by omega)
    · rw [if_neg hz]
      split
      · exact h.step
      · refine h.step.put no _ ⟨h2, ?_, ?_⟩ (.inl (by rw [stepS_files']; exact h3 rfl))
        · show min (s.fl no).safe z.toNat ≤ ((s.fl no).data.extract 0 z.toNat).size
          simp only [ByteArray.size_extract]; omega
        · show ((s.fl no).data.extract 0 z.toNat).size ≤ 1048576
          have : (s.fl no).data.size ≤ 1048576 := hd.2
          simp only [ByteArray.size_extract]; omega
  · rw [if_pos h0]; exact h.mono (by omega)
theorem del_len (l : FM) (a : Int) : (M.del l a).length ≤ l.length := by rw [M.length_del]; split <;> omega
theorem Okk.rem {s : DS} {k : Nat} (h : Okk s k) (no : Int) : Okk (remS s no) (k + 1) := by
  unfold remS
  by_cases h0 : mayE s no true = 0
  · rw [if_neg (by rw [h0]; decide)]
    split
    · exact h.step
    · have h1 := h.step
      exact ⟨M.nodup_del h1.nd no, Nat.le_trans (del_len _ _) h1.len, fun p hp => h1.fl p (M.mem_del hp), h1.fuse, h1.steps⟩
  · rw [if_pos h0]; exact h.mono (by omega)
theorem Okk.fus {s : DS} {k : Nat} (h : Okk s k) (n : Int) (hn : n ≤ 9223372036854775807) : Okk (fusS s n) (k + 1) := by
  unfold fusS
  split
  · exact h.mono (by omega)
  · have h2 := h.steps
    exact ⟨h.nd, h.len, h.fl, by show 0 ≤ max 0 n ∧ max 0 n ≤ _; omega, by show 0 ≤ s.steps ∧ s.steps ≤ _; omega⟩
theorem Okk.cut {s : DS} {k : Nat} (h : Okk s k) : Okk (cutS s) (k + 1) := by
  unfold cutS
  split
  · exact h.mono (by omega)
  · have h2 := h.steps
    exact ⟨h.nd, h.len, h.fl, ⟨Int.le_refl _, by show (0 : Int) ≤ _; omega⟩, by show 0 ≤ s.steps ∧ s.steps ≤ _; omega⟩
theorem stay_lo (picks : List Int) (k : Nat) (f : Fl) : f.safe ≤ staySize picks k f := by unfold staySize; omega
theorem stay_hi (picks : List Int) (k : Nat) {f : Fl} (h : f.safe ≤ f.data.size) : staySize picks k f ≤ f.data.size := by
  unfold staySize
  split
  · omega
  · have := Nat.mod_lt (max 0 (picks.getD (k % picks.length) 0)).toNat (show 0 < f.data.size - f.safe + 1 by omega)
    omega
/-- what becomes of one file -/
def Stays (f f' : Fl) : Prop := f.safe ≤ f'.safe ∧ f'.safe = f'.data.size ∧ f'.data.size ≤ f.data.size ∧ f'.data = f.data.extract 0 f'.data.size
theorem ext_self (d : ByteArray) : d.extract 0 d.size = d := by
  apply ByteArray.ext
  simp
theorem ext_ext (d : ByteArray) (a b : Nat) (h : a ≤ b) : (d.extract 0 b).extract 0 a = d.extract 0 a := by
  apply ByteArray.ext
  simp [Nat.min_eq_left h]
theorem sta_spec (picks : List Int) : ∀ (l : List Int) (M' : FM) (k : Nat), l.Nodup → (∀ a ∈ l, (M.get M' a).isSome = true) → (∀ p ∈ M', OkF p) → M.Nodup M' →
    (∀ a, a ∉ l → M.get (staF picks l M' k) a = M.get M' a) ∧ (∀ a ∈ l, ∃ f f', M.get M' a = some f ∧ M.get (staF picks l M' k) a = some f' ∧ Stays f f') ∧ (∀ p ∈ staF picks l M' k, OkF p) ∧ M.Nodup (staF picks l M' k) ∧ (staF picks l M' k).length = M'.length
  | [], M', k, _, _, h, hn => ⟨fun _ _ => rfl, fun a ha => by simp at ha, h, hn, rfl⟩
  | no :: l, M', k, hl, hs, h, hn => by
    rw [List.nodup_cons] at hl
    obtain ⟨f, hf⟩ := Option.isSome_iff_exists.1 (hs no (by simp))
    have hok := h _ (get_mem hf)
    have hk1 : f.safe ≤ f.data.size := hok.2.1
    have hk2 : f.data.size ≤ 1048576 := hok.2.2
    have hD : (M.get M' no).getD fl0 = f := by rw [hf]; rfl
    rw [staF, hD]
    by_cases h0 : f.data.size = f.safe
    · rw [if_pos h0]
      obtain ⟨i1, i2, i3, i4, i5⟩ := sta_spec picks l M' k hl.2 (fun a ha => hs a (by simp [ha])) h hn
      refine ⟨fun a ha => i1 a (fun hm => ha (by simp [hm])), fun a ha => ?_, i3, i4, i5⟩
      rcases List.mem_cons.1 ha with rfl | ha
      · exact ⟨f, f, hf, by rw [i1 _ hl.1]; exact hf, Nat.le_refl _, h0.symm, Nat.le_refl _, (ext_self _).symm⟩
      · exact i2 a ha
    · rw [if_neg h0]
      have hz := stay_hi picks k hk1
      have hlo := stay_lo picks k f
      obtain ⟨S, hS⟩ : ∃ S, staySize picks k f = S := ⟨_, rfl⟩
      rw [hS] at hz hlo ⊢
      have hes : (f.data.extract 0 S).size = S := by simp; omega
      have hok' : OkF (no, ⟨f.data.extract 0 S, S⟩) := ⟨hok.1, by show S ≤ (f.data.extract 0 S).size; omega, by show (f.data.extract 0 S).size ≤ _; omega⟩
      have hg : ∀ a, M.get (M.put M' no ⟨f.data.extract 0 S, S⟩) a = if a = no then some ⟨f.data.extract 0 S, S⟩ else M.get M' a := fun a => M.get_put _ _ _ _
      obtain ⟨i1, i2, i3, i4, i5⟩ := sta_spec picks l (M.put M' no ⟨f.data.extract 0 S, S⟩) (k + 1) hl.2 (fun a ha => by
          rw [hg]; split
          · rfl
          · exact hs a (by simp [ha])) (fun p hp => by
          rcases mem_put' hp with h1 | h1
          · rw [h1]; exact hok'
          · exact h p h1) (M.nodup_put hn no _)
      refine ⟨fun a ha => ?_, fun a ha => ?_, i3, i4, ?_⟩
      · rw [i1 a (fun hm => ha (by simp [hm])), hg, if_neg (fun e => ha (by simp [e]))]
      · rcases List.mem_cons.1 ha with rfl | ha
        · exact ⟨f, ⟨f.data.extract 0 S, S⟩, hf, by rw [i1 _ hl.1, hg, if_pos rfl], hlo, by show S = (f.data.extract 0 S).size; omega, by show (f.data.extract 0 S).size ≤ _; omega, by show f.data.extract 0 S = f.data.extract 0 (f.data.extract 0 S).size; rw [hes]⟩
        · obtain ⟨g, g', h1, h2, h3⟩ := i2 a ha
          rw [hg, if_neg (fun e => hl.1 (by rw [← e]; exact ha))] at h1
          exact ⟨g, g', h1, h2, h3⟩
      · rw [i5, M.length_put, hf]; rfl
theorem keys_nd {s : DS} (h : M.Nodup s.files) : s.keys.Nodup := by
  show ((s.files.map (·.1)).mergeSort leI).Nodup
  rw [(List.mergeSort_perm _ leI).nodup_iff, List.Nodup, List.pairwise_map]
  exact h
theorem keys_mem {s : DS} (a : Int) : a ∈ s.keys ↔ (M.get s.files a).isSome = true := by
  show a ∈ (s.files.map (·.1)).mergeSort leI ↔ _
  rw [List.mem_mergeSort, List.mem_map]
  constructor
  · rintro ⟨p, hp, rfl⟩
    cases hg : M.get s.files p.1 with
    | none => exact absurd rfl (M.get_none.1 hg p hp)
    | some v => rfl
  · intro h
    obtain ⟨f, hf⟩ := Option.isSome_iff_exists.1 h
    exact ⟨_, get_mem hf, rfl⟩
theorem Okk.sta {s : DS} {k : Nat} (h : Okk s k) (picks : List Int) : Okk (staS s picks) (k + 1) := by
  unfold staS
  split
  · obtain ⟨_, _, i3, i4, i5⟩ := sta_spec picks s.keys s.files 0 (keys_nd h.nd) (fun a ha => (keys_mem a).1 ha) h.fl h.nd
    have h2 := h.steps
    exact ⟨i4, by show (staF picks s.keys s.files 0).length ≤ 110; rw [i5]; exact h.len, i3, h.fuse, by show 0 ≤ s.steps ∧ s.steps ≤ _; omega⟩
  · exact h.mono (by omega)
theorem Okk.does {s : DS} {k : Nat} (h : Okk s k) (x : Pl) (hx : x.n ≤ 9223372036854775807) : Okk (doesS s x) (k + 1) := by
  unfold doesS
  split
  · exact h.app _ _
  split
  · exact h.syn _
  split
  · exact h.tri _ _
  split
  · exact h.rem _
  split
  · exact h.fus _ hx
  split
  · exact h.cut
  split
  · exact h.sta _
  · exact h.mono (by omega)
/-- the safe part of a file stays -/
def Grow (f f' : Fl) : Prop := f.safe ≤ f'.safe ∧ f'.data.extract 0 f.safe = f.data.extract 0 f.safe
/-- a file begins with what was safe -/
def Kp (s : DS) (no : Int) (σ : ByteArray) : Prop := (∃ f, M.get s.files no = some f ∧ σ.size ≤ f.safe ∧ f.data.extract 0 σ.size = σ) ∨ (M.get s.files no = none ∧ σ = ⟨#[]⟩)
theorem Kp.of {s s' : DS} {no : Int} {σ : ByteArray} (h : Kp s no σ) (hg : ∀ f, M.get s.files no = some f → ∃ f', M.get s'.files no = some f' ∧ Grow f f') : Kp s' no σ := by
  rcases h with ⟨f, h1, h2, h3⟩ | ⟨h1, h2⟩
  · obtain ⟨f', g1, g2, g3⟩ := hg f h1
    refine .inl ⟨f', g1, Nat.le_trans h2 g2, ?_⟩
    rw [← ext_ext f'.data _ _ h2, g3, ext_ext _ _ _ h2, h3]
  · subst h2
    cases hs : M.get s'.files no with
    | none => exact .inr ⟨hs, rfl⟩
    | some f' => exact .inl ⟨f', hs, Nat.zero_le _, by apply ByteArray.ext; simp; exact .inl rfl⟩
theorem Grow.refl (f : Fl) : Grow f f := ⟨Nat.le_refl _, rfl⟩
theorem Kp.same {s s' : DS} {no : Int} {σ : ByteArray} (h : Kp s no σ) (he : M.get s'.files no = M.get s.files no) : Kp s' no σ := h.of fun f hf => ⟨f, he.trans hf, Grow.refl f⟩
theorem ext_app (a b : ByteArray) (n : Nat) (h : n ≤ a.size) : (a ++ b).extract 0 n = a.extract 0 n := by
  apply ByteArray.ext
  have h' : n ≤ a.data.size := h
  simp [Array.extract_append]
  exact .inl (by omega)
theorem Kp.does {s : DS} {k : Nat} (h : Okk s k) {no : Int} {σ : ByteArray} (hk : Kp s no σ) (x : Pl) (hx : ¬ ((x.kind = 3 ∨ x.kind = 4) ∧ x.no = no)) : Kp (doesS s x) no σ := by
  unfold doesS
  split
  · unfold appS
    split
    · exact hk
    split
    · exact hk
    split
    · exact hk
    refine hk.of fun f hf => ?_
    rw [stepS_files']
    show ∃ f', M.get (M.put s.files x.no ⟨(s.fl x.no).data ++ x.s, (s.fl x.no).safe⟩) no = some f' ∧ Grow f f'
    rw [M.get_put]
    by_cases e : no = x.no
    · rw [if_pos e]
      have : s.fl x.no = f := by unfold DS.fl; rw [← e, hf]; rfl
      rw [this]
      have h1 := (h.fl _ (get_mem hf)).2.1
      exact ⟨_, rfl, Nat.le_refl _, ext_app _ _ _ h1⟩
    · rw [if_neg e]; exact ⟨f, hf, Grow.refl f⟩
  split
  · unfold synS
    split
    · exact hk
    split
    · exact hk.same (by rw [stepS_files'])
    refine hk.of fun f hf => ?_
    show ∃ f', M.get (M.put (stepS s).files x.no ⟨(s.fl x.no).data, (s.fl x.no).data.size⟩) no = some f' ∧ Grow f f'
    rw [M.get_put, stepS_files']
    by_cases e : no = x.no
    · rw [if_pos e]
      have : s.fl x.no = f := by unfold DS.fl; rw [← e, hf]; rfl
      rw [this]
      have h1 := (h.fl _ (get_mem hf)).2.1
      exact ⟨_, rfl, h1, rfl⟩
    · rw [if_neg e]; exact ⟨f, hf, Grow.refl f⟩
  split
  · rename_i hk3
    have hne : no ≠ x.no := fun e => hx ⟨.inl hk3, e.symm⟩
    unfold triS
    split
    · exact hk
    split
    · exact hk
    split
    · exact hk.same (by rw [stepS_files'])
    refine hk.same ?_
    show M.get (M.put (stepS s).files x.no _) no = _
    rw [M.get_put, if_neg hne, stepS_files']
  split
  · rename_i hk4
    have hne : no ≠ x.no := fun e => hx ⟨.inr hk4, e.symm⟩
    unfold remS
    split
    · exact hk
    split
    · exact hk.same (by rw [stepS_files'])
    refine hk.same ?_
    show M.get (M.del (stepS s).files x.no) no = _
    rw [stepS_files', M.get_del h.nd, if_neg hne]
  split
  · unfold fusS; split <;> exact hk
  split
  · unfold cutS; split <;> exact hk
  split
  · unfold staS
    split
    · obtain ⟨i1, i2, _⟩ := sta_spec x.picks s.keys s.files 0 (keys_nd h.nd) (fun a ha => (keys_mem a).1 ha) h.fl h.nd
      refine hk.of fun f hf => ?_
      obtain ⟨g, g', e1, e2, e3, e4, e5, e6⟩ := i2 no ((keys_mem no).2 (by rw [hf]; rfl))
      rw [hf] at e1
      cases e1
      refine ⟨g', e2, e3, ?_⟩
      rw [e6, ext_ext _ _ _ (by omega)]
    · exact hk
  · exact hk
theorem Kp.new {s : DS} {no : Int} (h : ∀ p ∈ s.files, OkF p) : Kp s no ((s.fl no).data.extract 0 (s.fl no).safe) := by
  unfold DS.fl
  cases hg : M.get s.files no with
  | none => exact .inr ⟨hg, by apply ByteArray.ext; simp [fl0]⟩
  | some f =>
    have h1 : f.safe ≤ f.data.size := (h _ (get_mem hg)).2.1
    have hs : (f.data.extract 0 f.safe).size = f.safe := by simp; omega
    refine .inl ⟨f, hg, by show (f.data.extract 0 f.safe).size ≤ _; omega, ?_⟩
    show f.data.extract 0 (f.data.extract 0 f.safe).size = f.data.extract 0 f.safe
    rw [hs]
/-- what the law asks -/
theorem Kp.some {s : DS} (hok : ∀ p ∈ s.files, OkF p) {no : Int} {σ : ByteArray} (h : Kp s no σ) : ((M.get s.files no).isSome = false → σ = ⟨#[]⟩) ∧ σ.size ≤ (s.fl no).data.size ∧ (s.fl no).data.extract 0 σ.size = σ := by
  rcases h with ⟨f, h1, h2, h3⟩ | ⟨h1, h2⟩
  · have hf : s.fl no = f := by unfold DS.fl; rw [h1]; rfl
    have := (hok _ (get_mem h1)).2.1
    rw [hf]
    exact ⟨(fun hh => by rw [h1] at hh; cases hh), Nat.le_trans h2 this, h3⟩
  · have hf : s.fl no = fl0 := by unfold DS.fl; rw [h1]; rfl
    rw [hf, h2]
    exact ⟨fun _ => rfl, Nat.le_refl _, by apply ByteArray.ext; simp [fl0]⟩
end Go.Proofs.YtdmjbdecemajpaaDoor.D
