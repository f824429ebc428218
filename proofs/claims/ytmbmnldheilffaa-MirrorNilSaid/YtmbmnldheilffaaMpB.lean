/- The mirror's plain law, second part: the mirror in memory and the list of objects that rises. -/
import Derived.Test.YtmbmnldheilffaaMi8
namespace Go.Proofs.Ytmbmnldheilffaa
set_option linter.unusedVariables false
set_option linter.unusedSimpArgs false
/-- the mirror holds just these objects -/
structure MR (d : MD) (L : List Ob) : Prop where
  srt : Srt L
  obs : ∀ r, (M.get d.obs r).map (·.o) = find L r
  len : d.obs.length = L.length
  hol : ∀ k : TK, holds d k = names L k.1 k.2
theorem length_filter_one {α : Type} (p : α → Bool) : ∀ {l : List α}, (∀ a ∈ l, ∀ b ∈ l, p a = true → p b = true → a = b) → l.Nodup → (∃ a ∈ l, p a = true) → (l.filter fun x => !p x).length + 1 = l.length
  | [], _, _, h => by obtain ⟨a, ha, _⟩ := h; simp at ha
  | x :: l, hu, hn, h => by
    obtain ⟨n1, n2⟩ := List.nodup_cons.1 hn
    cases hx : p x
    · obtain ⟨a, ha, hp⟩ := h
      have ha' : a ∈ l := by
        rcases List.mem_cons.1 ha with rfl | ha
        · rw [hx] at hp; cases hp
        · exact ha
      have := length_filter_one p (l := l) (fun a ha b hb => hu a (List.mem_cons_of_mem _ ha) b (List.mem_cons_of_mem _ hb)) n2 ⟨a, ha', hp⟩
      simp [hx, this]
    · have : l.filter (fun x => !p x) = l := by
        rw [List.filter_eq_self]
        intro y hy
        cases hyp : p y
        · rfl
        · have := hu x List.mem_cons_self y (List.mem_cons_of_mem _ hy) hx hyp
          subst this
          exact absurd hy n1
      simp [hx, this]
theorem Srt.nodup {L : List Ob} (h : Srt L) : L.Nodup := List.Pairwise.imp (fun {a b} h e => by subst e; unfold olt at h; rw [rlt_irrefl] at h; cases h) h
theorem length_delL {L : List Ob} (h : Srt L) (r : Ref) : (delL r L).length = if (find L r).isSome then L.length - 1 else L.length := by
  cases hf : find L r with
  | none => rw [delL_none hf]; rfl
  | some o =>
    obtain ⟨h1, h2⟩ := find_some hf
    have := length_filter_one (fun o => decide (refOf o = r)) (l := L) (fun a ha b hb pa pb => h.inj ha hb (by simp at pa pb; rw [pa, pb])) h.nodup ⟨o, h1, by simp [h2]⟩
    unfold delL
    simp only [Option.isSome_some, if_true]
    omega
theorem length_insL {L : List Ob} (h : Srt L) (o : Ob) (hn : find L (refOf o) = none) : (insL o L).length = L.length + 1 := by
  have := split_srt h o hn
  have := congrArg List.length this
  rw [List.length_append] at this
  unfold insL
  rw [List.length_append, List.length_cons]
  omega
theorem length_putL {L : List Ob} (h : Srt L) (o : Ob) : (putL o L).length = if (find L (refOf o)).isSome then L.length else L.length + 1 := by
  unfold putL
  rw [length_insL (h.del _) o (by rw [find_delL h, if_pos rfl]), length_delL h]
  split
  · rename_i hs
    have : L ≠ [] := by intro e; subst e; simp [find] at hs
    have := List.length_pos_iff.2 this
    omega
  · rfl
theorem putL_same {L : List Ob} (h : Srt L) {o : Ob} (hf : find L (refOf o) = some o) : putL o L = L := by
  refine srt_ext (h.put o) h fun r => ?_
  rw [find_putL h]
  split
  · rename_i e; rw [e, hf]
  · rfl
theorem names_len (L : List Ob) (k : Int) (t : ByteArray) : (names L k t).length ≤ L.length := by
  unfold names
  rw [List.length_map]
  exact List.length_filter_le _ _
theorem MR.rise {d : MD} {L : List Ob} (h : MR d L) (k : TK) : Rise (holds d k) := by rw [h.hol]; exact names_rise h.srt _ _
theorem MR.small {d : MD} {L : List Ob} (h : MR d L) (k : TK) : (holds d k).length ≤ L.length := by rw [h.hol]; exact names_len _ _ _
/-- an object that is there has its texts -/
theorem MR.has {d : MD} {L : List Ob} (h : MR d L) {o : Ob} (ho : o ∈ L) {s : ByteArray} (hs : s ∈ txts o) : o.name ∈ holds d (o.kind, s) := by
  rw [h.hol, mem_names]
  exact ⟨o, ho, rfl, hs, rfl⟩
/-- an object that is not there has none -/
theorem MR.hasnt {d : MD} {L : List Ob} (h : ∀ k : TK, holds d k = names L k.1 k.2) {o : Ob} (ho : find L (refOf o) = none) (s : ByteArray) : o.name ∉ holds d (o.kind, s) := by
  rw [h, mem_names]
  rintro ⟨x, hx, h1, h2, h3⟩
  exact find_none.1 ho x hx (by unfold refOf; rw [h1, h3])
theorem inT_hasT (o : Ob) (k : TK) : inT o.kind (txts o) k = hasT k.1 k.2 o := by
  rw [Bool.eq_iff_iff, inT_iff, hasT_iff]
  exact ⟨fun h => ⟨h.1.symm, h.2⟩, fun h => ⟨h.1.symm, h.2⟩⟩
/-- one is unindexed -/
theorem hol_del {d d' : MD} {L : List Ob} (hL : Srt L) (h : ∀ k : TK, holds d k = names L k.1 k.2) {o : Ob} (ho : o ∈ L) (hd : ∀ k : TK, holds d' k = if inT o.kind (txts o) k then (holds d k).filter (fun n => !decide (n = o.name)) else holds d k) (k : TK) : holds d' k = names (delL (refOf o) L) k.1 k.2 := by
  rw [hd, names_del hL, h]
  by_cases hk : o.kind = k.1
  · rw [if_pos (show (refOf o).kind = k.1 from hk)]
    by_cases ht : k.2 ∈ txts o
    · rw [if_pos (inT_iff.2 ⟨hk.symm, ht⟩)]; rfl
    · rw [inT_not (fun c => ht c.2), if_neg Bool.false_ne_true]
      have := names_not hL ho ht
      rw [hk] at this
      exact this.symm
  · rw [if_neg (show ¬ (refOf o).kind = k.1 from hk), inT_not (fun c => hk c.1.symm), if_neg Bool.false_ne_true]
/-- one is indexed -/
theorem hol_ins {d d' : MD} {L : List Ob} (hL : Srt L) (h : ∀ k : TK, holds d k = names L k.1 k.2) {o : Ob} (ho : find L (refOf o) = none) (hd : ∀ k : TK, holds d' k = if inT o.kind (txts o) k then insN o.name (holds d k) else holds d k) (k : TK) : holds d' k = names (insL o L) k.1 k.2 := by
  rw [hd, names_ins hL o ho, h, inT_hasT]
/-- an object is put where none of its name stands -/
theorem MR.put {d d' : MD} {L : List Ob} (hL : Srt L) {x : OV} (hd : d'.obs = M.put d.obs (refOf x.o) x) (hobs : ∀ r, (M.get d.obs r).map (·.o) = find L r) (hlen : d.obs.length = L.length) (hh : ∀ k : TK, holds d' k = names (putL x.o L) k.1 k.2) : MR d' (putL x.o L) := by
  refine ⟨hL.put _, fun r => ?_, ?_, hh⟩
  · rw [hd, M.get_put, find_putL hL]
    split
    · rfl
    · exact hobs r
  · rw [hd, M.length_put, length_putL hL, hlen]
    have := hobs (refOf x.o)
    rw [← this]
    cases M.get d.obs (refOf x.o) <;> rfl
/-- an object goes -/
theorem MR.del {d d' : MD} {L : List Ob} (hL : Srt L) (hn : M.Nodup d.obs) {r : Ref} (hd : d'.obs = M.del d.obs r) (hobs : ∀ r, (M.get d.obs r).map (·.o) = find L r) (hlen : d.obs.length = L.length) (hh : ∀ k : TK, holds d' k = names (delL r L) k.1 k.2) : MR d' (delL r L) := by
  refine ⟨hL.del _, fun q => ?_, ?_, hh⟩
  · rw [hd, M.get_del hn, find_delL hL]
    split
    · rfl
    · exact hobs q
  · rw [hd, M.length_del, length_delL hL, hlen]
    have := hobs r
    rw [← this]
    cases M.get d.obs r <;> rfl
theorem MR.nil (mo mh : Nat) : MR ⟨mo, mh, [], []⟩ [] := ⟨List.Pairwise.nil, fun _ => rfl, rfl, fun _ => rfl⟩
end Go.Proofs.Ytmbmnldheilffaa
