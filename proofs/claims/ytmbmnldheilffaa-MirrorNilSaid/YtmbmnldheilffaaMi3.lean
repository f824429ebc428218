/- The mirror in memory: its state, and how each change of a part leaves the rest. -/
import Derived.Test.YtmbmnldheilffaaMi2
import Derived.Test.YtmbmnldheilffaaMpA
namespace Go.Proofs.Ytmbmnldheilffaa
set_option linter.unusedVariables false
set_option linter.unusedSimpArgs false
open Go.RowKit
/-! ### names and texts as keys -/
def rv (r : Ref) : Value := .agg #[.int .i64 r.kind, .string r.name]
def rc (r : Ref) : List Value := [.int .i64 r.kind, .string r.name]
/-- a text of a kind -/
abbrev TK := Int × ByteArray
def tv (k : TK) : Value := .agg #[.int .i64 k.1, .string k.2]
theorem ref_eq (a b : Ref) (d : Nat) (w : World) : (Op.equalIn (d + 2) 34 (rv a) (rv b)).run Try.prog w = .ok (decide (a = b)) w := by
  simp [rv, go_sem]
  cases a with | mk k s => cases b with | mk k' s' =>
  by_cases h1 : k = k'
  · by_cases h2 : s.toList = s'.toList
    · have := toList_inj h2; subst this; simp [h1]
    · have h3 : s ≠ s' := fun e => h2 (by rw [e])
      simp [h1, h2, h3]
  · simp [h1]
theorem tk_eq (a b : TK) (d : Nat) (w : World) : (Op.equalIn (d + 2) 68 (tv a) (tv b)).run Try.prog w = .ok (decide (a = b)) w := by
  simp [tv, go_sem]
  cases a with | mk k s => cases b with | mk k' s' =>
  by_cases h1 : k = k'
  · by_cases h2 : s.toList = s'.toList
    · have := toList_inj h2; subst this; simp [h1]
    · have h3 : s ≠ s' := fun e => h2 (by rw [e])
      simp [h1, h2, h3]
  · simp [h1]
theorem check_int (b : Bool) (n : Nat) (a : Int) (w : World) : (Instr.checkKey b (n + 1) 3 (.int .i64 a)).run Try.prog w = .ok () w := by
  simp [Instr.checkKey, go_sem]
theorem check_str (b : Bool) (n : Nat) (a : ByteArray) (w : World) : (Instr.checkKey b (n + 1) 9 (.string a)).run Try.prog w = .ok () w := by
  simp [Instr.checkKey, go_sem]
theorem ref_check (b : Bool) (n : Nat) (a : Ref) (w : World) : (Instr.checkKey b (n + 2) 34 (rv a)).run Try.prog w = .ok () w := by
  unfold Instr.checkKey
  simp [rv, go_sem, check_int, check_str]
theorem tk_check (b : Bool) (n : Nat) (a : TK) (w : World) : (Instr.checkKey b (n + 2) 68 (tv a)).run Try.prog w = .ok () w := by
  unfold Instr.checkKey
  simp [tv, go_sem, check_int, check_str]
theorem ref_law : M.KeyLaw Try.prog 34 rv where
  check b a w := ref_check b 9998 a w
  eq a b w := ref_eq a b 9998 w
  now td a b h := .inl (by rw [Try.underlying34] at h; cases h; rfl)
  bits a := by
    show Instr.sameBits (9998 + 2) _ _ = true
    unfold Instr.sameBits
    simp [rv, Instr.sameBits, beq_toListBytes]
  ty := ⟨_, Try.underlying34⟩
theorem tk_law : M.KeyLaw Try.prog 68 tv where
  check b a w := tk_check b 9998 a w
  eq a b w := tk_eq a b 9998 w
  now td a b h := .inl (by rw [Try.underlying68] at h; cases h; rfl)
  bits a := by
    show Instr.sameBits (9998 + 2) _ _ = true
    unfold Instr.sameBits
    simp [tv, Instr.sameBits, beq_toListBytes]
  ty := ⟨_, Try.underlying68⟩
/-! ### maps whose values stand for others -/
def mapv {K U V : Type} (f : U → V) (l : List (K × U)) : List (K × V) := l.map fun p => (p.1, f p.2)
section
variable {K U V : Type} [DecidableEq K]
theorem mapv_get (f : U → V) (l : List (K × U)) (a : K) : M.get (mapv f l) a = (M.get l a).map f := by
  induction l with
  | nil => rfl
  | cons p l ih => simp only [mapv, List.map_cons, M.get] at *; split; rfl; exact ih
theorem mapv_put (f : U → V) (l : List (K × U)) (a : K) (v : U) : mapv f (M.put l a v) = M.put (mapv f l) a (f v) := by
  induction l with
  | nil => rfl
  | cons p l ih => simp only [mapv, List.map_cons, M.put] at *; split; rfl; rw [List.map_cons, ih]
theorem mapv_del (f : U → V) (l : List (K × U)) (a : K) : mapv f (M.del l a) = M.del (mapv f l) a := by
  induction l with
  | nil => rfl
  | cons p l ih => simp only [mapv, List.map_cons, M.del] at *; split; rfl; rw [List.map_cons, ih]
theorem get_mem {l : List (K × U)} {a : K} {v : U} (h : M.get l a = some v) : (a, v) ∈ l := by
  induction l with
  | nil => simp [M.get] at h
  | cons p l ih =>
    unfold M.get at h
    split at h
    · rename_i e
      cases h
      rw [e]
      exact List.mem_cons_self
    · exact List.mem_cons_of_mem _ (ih h)
theorem mem_get {l : List (K × U)} (hn : M.Nodup l) {p : K × U} (h : p ∈ l) : M.get l p.1 = some p.2 := by
  induction l with
  | nil => simp at h
  | cons q l ih =>
    obtain ⟨h1, h2⟩ := List.pairwise_cons.1 hn
    unfold M.get
    rcases List.mem_cons.1 h with rfl | h
    · rw [if_pos rfl]
    · rw [if_neg (fun e => h1 p h e.symm), ih h2 h]
theorem mem_put {l : List (K × U)} (hn : M.Nodup l) {a : K} {v : U} {p : K × U} (h : p ∈ M.put l a v) : p = (a, v) ∨ (p ∈ l ∧ p.1 ≠ a) := by
  have h1 := mem_get (M.nodup_put hn a v) h
  rw [M.get_put] at h1
  by_cases e : p.1 = a
  · rw [if_pos e] at h1
    cases p
    simp only at e h1
    cases h1
    exact .inl (by rw [e])
  · rw [if_neg e] at h1
    exact .inr ⟨get_mem h1, e⟩
theorem mem_del' {l : List (K × U)} (hn : M.Nodup l) {a : K} {p : K × U} (h : p ∈ M.del l a) : p ∈ l ∧ p.1 ≠ a := by
  refine ⟨M.mem_del h, fun e => ?_⟩
  have h1 := mem_get (M.nodup_del hn a) h
  rw [M.get_del hn, if_pos e] at h1
  cases h1
end
theorem mapv_len {K U V : Type} (f : U → V) (l : List (K × U)) : (mapv f l).length = l.length := by simp [mapv]
theorem nodup_mapv {K U V : Type} (f : U → V) {l : List (K × U)} (h : M.Nodup l) : M.Nodup (mapv f l) := by
  unfold M.Nodup mapv at *
  rw [List.pairwise_map]
  exact h
/-! ### blocks that stay -/
theorem owns_block {w : World} {B e size n : Nat} {v : Value} {xs : List Value} (h : w.ownsRow B e size v n xs) {j : Nat} (hj : v.ownBlock = some j) : ∃ c, w.heap[j]? = some (.cells c e (0, 0)) := by
  obtain ⟨_, ⟨rfl, rfl⟩ | ⟨g, cap, cur, rfl, hb, hh, _⟩⟩ := h
  · simp [Value.ownBlock] at hj
  · have : g = j := by simpa [Value.ownBlock] using hj
    subst this; exact ⟨_, hh⟩
theorem owns_lt {w : World} {B e size n : Nat} {v : Value} {xs : List Value} (h : w.ownsRow B e size v n xs) {j : Nat} (hj : v.ownBlock = some j) : j < w.heap.size := by
  obtain ⟨c, hc⟩ := owns_block h hj
  exact (Array.getElem?_eq_some_iff.1 hc).1
theorem owns_kept {w w1 : World} {B e size n : Nat} {v : Value} {xs : List Value} (h : w.ownsRow B e size v n xs) (hk : ∀ j, v.ownBlock = some j → w1.heap[j]? = w.heap[j]?) : w1.ownsRow B e size v n xs := by
  obtain ⟨hl, ⟨rfl, rfl⟩ | ⟨g, cap, cur, rfl, hb, hh, r⟩⟩ := h
  · exact ⟨hl, .inl ⟨rfl, rfl⟩⟩
  · exact ⟨hl, .inr ⟨g, cap, cur, rfl, hb, (hk g rfl).trans hh, r⟩⟩
theorem map_not_cells {K : Type} {w : World} {a b : Nat} {c : Array Value} {e : TypeId} {f : Nat × Nat} {kv : K → Value} {l : List (K × Value)} (h : w.heap[a]? = some (.cells c e f)) (k : M.MapIs kv w b l) : a ≠ b := by
  rintro rfl
  obtain ⟨es, ck, hh, _⟩ := k
  rw [h] at hh; cases hh
theorem cells_not {w : World} {a b : Nat} {c c' : Array Value} {e e' : TypeId} {f f' : Nat × Nat} (h : w.heap[a]? = some (.cells c e f)) (k : w.heap[b]? = some (.cells c' e' f')) (hne : e ≠ e') : a ≠ b := by
  rintro rfl
  rw [h] at k; injection k with k; injection k with _ k _; exact hne k
/-- nothing but such blocks has turned -/
structure Fr (F : Nat → Prop) (w w1 : World) : Prop where
  os : w1.os = w.os
  tape : w1.tape = w.tape
  output : w1.output = w.output
  size : w.heap.size ≤ w1.heap.size
  block : ∀ j, j < w.heap.size → ¬ F j → w1.heap[j]? = w.heap[j]?
theorem Fr.refl (F : Nat → Prop) (w : World) : Fr F w w := ⟨rfl, rfl, rfl, Nat.le_refl _, fun _ _ _ => rfl⟩
theorem Fr.of_below {F : Nat → Prop} {w w1 : World} (h : Below w.heap.size w w1) : Fr F w w1 := ⟨h.os, h.tape, h.output, h.size, fun j hj _ => h.block j hj⟩
theorem Fr.trans {F G : Nat → Prop} {w w1 w2 : World} (h : Fr F w w1) (k : Fr G w1 w2) (hG : ∀ j, G j → F j ∨ w.heap.size ≤ j) : Fr F w w2 :=
  ⟨k.os.trans h.os, k.tape.trans h.tape, k.output.trans h.output, Nat.le_trans h.size k.size, fun j hj hF => (k.block j (Nat.lt_of_lt_of_le hj h.size) (fun hg => by rcases hG j hg with h1 | h1; exact hF h1; omega)).trans (h.block j hj hF)⟩
theorem Fr.below {F : Nat → Prop} {B : Nat} {W w w1 : World} (h : Below B W w) (hB : B ≤ w.heap.size) (k : Fr F w w1) (hF : ∀ j, F j → B ≤ j) : Below B W w1 :=
  h.trans ⟨k.os, k.tape, k.output, k.size, fun j hj => k.block j (Nat.lt_of_lt_of_le hj hB) (fun hf => by have := hF j hf; omega)⟩
theorem Fr.upd {F : Nat → Prop} (w : World) (n r : Nat) (o : Obj) (h : F r) : Fr F w (M.upd (w.drewN n) r o) :=
  ⟨rfl, rfl, rfl, by rw [M.upd_size]; exact Nat.le_refl _, fun j _ hj => M.upd_other _ _ _ j (fun e => hj (e ▸ h))⟩
theorem Fr.drewN {F : Nat → Prop} {w w1 : World} (h : Fr F w w1) (n : Nat) : Fr F w (w1.drewN n) := ⟨h.os, h.tape, h.output, h.size, h.block⟩
/-! ### objects in memory -/
/-- an object with its lists -/
structure OV where
  o : Ob
  f : Sl
  l : Sl
  c : Sl
  p : Sl
  i : Sl
def ov (x : OV) : Value := .agg (oc x.o x.f x.l x.c x.p x.i)
/-- an address where a list of the object begins -/
def hasA (x : OV) (ad : Addr) : Prop := x.f.A = some ad ∨ x.l.A = some ad ∨ x.c.A = some ad ∨ x.p.A = some ad ∨ x.i.A = some ad
/-- an object that is read: its lists lie in blocks that are not of a kind -/
structure OOk (F : Nat → Prop) (w : World) (x : OV) : Prop where
  rows : RowsR w x.o x.f x.l x.c x.p x.i
  off : ∀ ad, hasA x ad → ad.block < w.heap.size ∧ ¬ F ad.block
  sz : Sz5 x.o
theorem add_block (a : Addr) (j : Nat) : (a.add j).block = a.block := by unfold Addr.add; split <;> rfl
theorem rowR_keep {w w1 : World} {A : Option Addr} {cs : List Value} (h : RowR w A cs) (hk : ∀ ad, A = some ad → w1.heap[ad.block]? = w.heap[ad.block]?) : RowR w1 A cs := fun j u hj => by
  obtain ⟨ad, h1, h2⟩ := h j u hj
  refine ⟨ad, h1, ?_⟩
  have hb := hk ad h1
  rw [← add_block ad j] at hb
  unfold World.cell? at h2 ⊢
  rw [hb]
  exact h2
theorem OOk.keep {F G : Nat → Prop} {w w1 : World} {x : OV} (h : OOk F w x) (hs : w.heap.size ≤ w1.heap.size) (hk : ∀ ad, hasA x ad → w1.heap[ad.block]? = w.heap[ad.block]?) (hG : ∀ j, j < w.heap.size → G j → F j) : OOk G w1 x :=
  ⟨⟨rowR_keep h.rows.fr fun ad e => hk ad (.inl e), rowR_keep h.rows.lr fun ad e => hk ad (.inr (.inl e)), rowR_keep h.rows.cr fun ad e => hk ad (.inr (.inr (.inl e))), rowR_keep h.rows.pr fun ad e => hk ad (.inr (.inr (.inr (.inl e)))), rowR_keep h.rows.ir fun ad e => hk ad (.inr (.inr (.inr (.inr e))))⟩,
    fun ad ha => ⟨Nat.lt_of_lt_of_le (h.off ad ha).1 hs, fun hg => (h.off ad ha).2 (hG _ (h.off ad ha).1 hg)⟩, h.sz⟩
theorem OOk.fr {F G : Nat → Prop} {w w1 : World} {x : OV} (h : OOk F w x) (hf : Fr F w w1) (hG : ∀ j, G j → F j ∨ w.heap.size ≤ j) : OOk G w1 x :=
  h.keep hf.size (fun ad ha => hf.block _ (h.off ad ha).1 (h.off ad ha).2) (fun j hj hg => (hG j hg).resolve_right (by omega))
theorem OOk.below {F : Nat → Prop} {w w1 : World} {x : OV} (h : OOk F w x) (hb : Below w.heap.size w w1) : OOk F w1 x := h.keep hb.size (fun ad ha => hb.block _ (h.off ad ha).1) (fun _ _ h => h)
theorem owns_addr {w : World} {B e size n : Nat} {A : Option Addr} {m c : Nat} {xs : List Value} (h : w.ownsRow B e size (.slice A m c) n xs) {ad : Addr} (ha : A = some ad) : B ≤ ad.block ∧ ad.block < w.heap.size := by
  obtain ⟨_, ⟨h1, _⟩ | ⟨g, cap, cur, h1, hb, hh, _⟩⟩ := h
  · injection h1 with h1 _ _
    rw [ha] at h1; cases h1
  · injection h1 with h1 _ _
    rw [ha] at h1; cases h1
    exact ⟨hb, (Array.getElem?_eq_some_iff.1 hh).1⟩
/-- a copy that was just made -/
theorem OOk.made {F : Nat → Prop} {w w1 : World} {x : OV} (h : ObOwn w1 w.heap.size x.o x.f x.l x.c x.p x.i) (hs : Sz5 x.o) (hF : ∀ j, F j → j < w.heap.size) : OOk F w1 x := by
  refine ⟨RowsR.of_owns h, fun ad ha => ?_, hs⟩
  have key : w.heap.size ≤ ad.block ∧ ad.block < w1.heap.size := by
    rcases ha with ha | ha | ha | ha | ha
    · exact owns_addr h.fr ha
    · exact owns_addr h.lr ha
    · exact owns_addr h.cr ha
    · exact owns_addr h.pr ha
    · exact owns_addr h.ir ha
  exact ⟨key.2, fun hf => by have := hF _ hf; omega⟩
/-! ### the mirror -/
/-- who has a text: the slice, and the names in it -/
structure HV where
  v : Value
  l : List ByteArray
structure MD where
  mo : Nat
  mh : Nat
  obs : List (Ref × OV)
  hol : List (TK × HV)
/-- the blocks of the mirror that turn -/
def Foot (mb : Nat) (d : MD) (j : Nat) : Prop := j = mb ∨ j = d.mo ∨ j = d.mh ∨ ∃ p ∈ d.hol, p.2.v.ownBlock = some j
structure MInv (B mb : Nat) (d : MD) (w : World) : Prop where
  cells : w.heap[mb]? = some (.cells #[.map (some d.mo), .map (some d.mh)] 57 (0, 0))
  hB : B ≤ mb ∧ B ≤ d.mo ∧ B ≤ d.mh
  apart : d.mo ≠ d.mh
  mobs : M.MapIs rv w d.mo (mapv ov d.obs)
  mhol : M.MapIs tv w d.mh (mapv (·.v) d.hol)
  nobs : M.Nodup d.obs
  nhol : M.Nodup d.hol
  keys : ∀ p ∈ d.obs, refOf p.2.o = p.1
  objs : ∀ p ∈ d.obs, OOk (Foot mb d) w p.2
  rows : ∀ p ∈ d.hol, w.ownsRow B 9 1 p.2.v p.2.l.length (p.2.l.flatMap cS)
  sep : ∀ p ∈ d.hol, ∀ q ∈ d.hol, p.1 ≠ q.1 → ∀ j, p.2.v.ownBlock = some j → q.2.v.ownBlock ≠ some j
theorem MInv.foot_lt {B mb : Nat} {d : MD} {w : World} (h : MInv B mb d w) {j : Nat} (hj : Foot mb d j) : j < w.heap.size := by
  rcases hj with rfl | rfl | rfl | ⟨p, hp, hj⟩
  · exact (Array.getElem?_eq_some_iff.1 h.cells).1
  · exact h.mobs.lt
  · exact h.mhol.lt
  · exact owns_lt (h.rows p hp) hj
theorem MInv.foot_B {B mb : Nat} {d : MD} {w : World} (h : MInv B mb d w) {j : Nat} (hj : Foot mb d j) : B ≤ j := by
  rcases hj with rfl | rfl | rfl | ⟨p, hp, hj⟩
  · exact h.hB.1
  · exact h.hB.2.1
  · exact h.hB.2.2
  · exact G.owns_base (h.rows p hp) j hj
theorem MInv.lt {B mb : Nat} {d : MD} {w : World} (h : MInv B mb d w) : mb < w.heap.size := h.foot_lt (.inl rfl)
theorem MInv.keep {B mb : Nat} {d : MD} {w w1 : World} (h : MInv B mb d w) (hs : w.heap.size ≤ w1.heap.size) (hk : ∀ j, Foot mb d j → w1.heap[j]? = w.heap[j]?) (ho : ∀ p ∈ d.obs, ∀ ad, hasA p.2 ad → w1.heap[ad.block]? = w.heap[ad.block]?) : MInv B mb d w1 where
  cells := (hk mb (.inl rfl)).trans h.cells
  hB := h.hB
  apart := h.apart
  mobs := h.mobs.of_block (hk _ (.inr (.inl rfl)))
  mhol := h.mhol.of_block (hk _ (.inr (.inr (.inl rfl))))
  nobs := h.nobs
  nhol := h.nhol
  keys := h.keys
  objs p hp := (h.objs p hp).keep hs (ho p hp) (fun _ _ h => h)
  rows p hp := owns_kept (h.rows p hp) fun j hj => hk j (.inr (.inr (.inr ⟨p, hp, hj⟩)))
  sep := h.sep
theorem MInv.below {B mb : Nat} {d : MD} {w w1 : World} (h : MInv B mb d w) (hb : Below w.heap.size w w1) : MInv B mb d w1 :=
  h.keep hb.size (fun j hj => hb.block j (h.foot_lt hj)) (fun p hp ad ha => hb.block _ ((h.objs p hp).off ad ha).1)
theorem MInv.drewN {B mb : Nat} {d : MD} {w : World} (h : MInv B mb d w) (n : Nat) : MInv B mb d (w.drewN n) := h.keep (Nat.le_refl _) (fun _ _ => rfl) (fun _ _ _ _ => rfl)
/-- a call on the mirror -/
structure MStep (B mb : Nat) (d : MD) (w : World) (d' : MD) (w' : World) : Prop where
  inv : MInv B mb d' w'
  foot : ∀ j, Foot mb d' j → Foot mb d j ∨ w.heap.size ≤ j
  fr : Fr (Foot mb d) w w'
theorem MStep.trans {B mb : Nat} {d d1 d2 : MD} {w w1 w2 : World} (h : MStep B mb d w d1 w1) (k : MStep B mb d1 w1 d2 w2) : MStep B mb d w d2 w2 :=
  ⟨k.inv, fun j hj => by
    rcases k.foot j hj with h1 | h1
    · exact h.foot j h1
    · exact .inr (Nat.le_trans h.fr.size h1), h.fr.trans k.fr h.foot⟩
theorem MStep.below {B mb : Nat} {d : MD} {w w1 : World} (h : MInv B mb d w) (hb : Below w.heap.size w w1) : MStep B mb d w d w1 := ⟨h.below hb, fun _ hj => .inl hj, Fr.of_below hb⟩
theorem MStep.then {B mb : Nat} {d d1 : MD} {w w1 w2 : World} (h : MStep B mb d w d1 w1) (hb : Below w1.heap.size w1 w2) : MStep B mb d w d1 w2 := h.trans (MStep.below h.inv hb)
theorem MInv.c0 {B mb : Nat} {d : MD} {w : World} (h : MInv B mb d w) : w.cell? ⟨mb, 0, none⟩ = some (.map (some d.mo)) := by simp [World.cell?, h.cells]
theorem MInv.c1 {B mb : Nat} {d : MD} {w : World} (h : MInv B mb d w) : w.cell? ⟨mb, 1, none⟩ = some (.map (some d.mh)) := by simp [World.cell?, h.cells]
/-- the names that have a text -/
def holds (d : MD) (k : TK) : List ByteArray := ((M.get d.hol k).map (·.l)).getD []
/-- the slice that is looked up -/
def holdV (d : MD) (k : TK) : Value := ((M.get d.hol k).map (·.v)).getD (.slice none 0 0)
theorem MInv.hold {B mb : Nat} {d : MD} {w : World} (h : MInv B mb d w) (k : TK) : w.ownsRow B 9 1 (holdV d k) (holds d k).length ((holds d k).flatMap cS) := by
  unfold holdV holds
  cases e : M.get d.hol k with
  | none => exact G.owns_nil _ _ _ _
  | some x => exact h.rows _ (get_mem e)
theorem MInv.hold_foot {B mb : Nat} {d : MD} {w : World} (h : MInv B mb d w) (k : TK) {j : Nat} (hj : (holdV d k).ownBlock = some j) : Foot mb d j := by
  unfold holdV at hj
  cases e : M.get d.hol k with
  | none => rw [e] at hj; simp [Value.ownBlock] at hj
  | some x => rw [e] at hj; exact .inr (.inr (.inr ⟨_, get_mem e, hj⟩))
/-- a row of names has turned, and the map holds it -/
theorem MInv.puthol {B mb : Nat} {d : MD} {w w1 : World} (h : MInv B mb d w) (k : TK) (v : Value) (l : List ByteArray) (hf : Fr (fun j => j = d.mh ∨ (holdV d k).ownBlock = some j) w w1) (hv : w1.ownsRow B 9 1 v l.length (l.flatMap cS))
    (hg : ∀ j, v.ownBlock = some j → (holdV d k).ownBlock = some j ∨ w.heap.size ≤ j) (hm : M.MapIs tv w1 d.mh (M.put (mapv (·.v) d.hol) k v)) :
    MStep B mb d w { d with hol := M.put d.hol k ⟨v, l⟩ } w1 := by
  have hmb : mb ≠ d.mh := map_not_cells h.cells h.mhol
  have hnb : ∀ j, (holdV d k).ownBlock = some j → ∃ c, w.heap[j]? = some (.cells c 9 (0, 0)) := fun j hj => owns_block (h.hold k) hj
  have keep : ∀ j, j < w.heap.size → j ≠ d.mh → (holdV d k).ownBlock ≠ some j → w1.heap[j]? = w.heap[j]? := fun j hj h1 h2 => hf.block j hj (fun hh => hh.elim h1 h2)
  have hfoot : ∀ j, Foot mb { d with hol := M.put d.hol k ⟨v, l⟩ } j → Foot mb d j ∨ w.heap.size ≤ j := fun j hj => by
    rcases hj with h1 | h1 | h1 | ⟨p, hp, hj⟩
    · exact .inl (.inl h1)
    · exact .inl (.inr (.inl h1))
    · exact .inl (.inr (.inr (.inl h1)))
    · rcases mem_put h.nhol hp with rfl | ⟨hp, _⟩
      · rcases hg j hj with h1 | h1
        · exact .inl (h.hold_foot k h1)
        · exact .inr h1
      · exact .inl (.inr (.inr (.inr ⟨p, hp, hj⟩)))
  have hfr : Fr (Foot mb d) w w1 := ⟨hf.os, hf.tape, hf.output, hf.size, fun j hj hF => keep j hj (fun e => hF (.inr (.inr (.inl e)))) (fun e => hF (h.hold_foot k e))⟩
  have other : ∀ p ∈ d.hol, p.1 ≠ k → ∀ j, p.2.v.ownBlock = some j → (holdV d k).ownBlock ≠ some j := fun p hp hne j hj hk => by
    unfold holdV at hk
    cases e : M.get d.hol k with
    | none => rw [e] at hk; simp [Value.ownBlock] at hk
    | some x => rw [e] at hk; exact h.sep p hp (k, x) (get_mem e) hne j hj hk
  refine ⟨⟨?_, h.hB, h.apart, ?_, ?_, h.nobs, M.nodup_put h.nhol _ _, h.keys, fun p hp => (h.objs p hp).fr hfr hfoot, fun p hp => ?_, fun p hp q hq hne j hj => ?_⟩, hfoot, hfr⟩
  · exact (keep mb h.lt hmb (fun e => by obtain ⟨c, hc⟩ := hnb _ e; exact cells_not hc h.cells (by decide) rfl)).trans h.cells
  · exact h.mobs.of_block (keep _ h.mobs.lt h.apart (fun e => by obtain ⟨c, hc⟩ := hnb _ e; exact map_not_cells hc h.mobs rfl))
  · rw [mapv_put]; exact hm
  · rcases mem_put h.nhol hp with rfl | ⟨hp, hne⟩
    · exact hv
    · refine owns_kept (h.rows p hp) fun j hj => keep j (owns_lt (h.rows p hp) hj) ?_ (other p hp hne j hj)
      obtain ⟨c, hc⟩ := owns_block (h.rows p hp) hj
      exact map_not_cells hc h.mhol
  · have clash : ∀ p ∈ d.hol, p.1 ≠ k → ∀ j, p.2.v.ownBlock = some j → v.ownBlock ≠ some j := fun p hp hne j hj hv => by
      rcases hg j hv with h1 | h1
      · exact other p hp hne j hj h1
      · have := owns_lt (h.rows p hp) hj; omega
    rcases mem_put h.nhol hp with rfl | ⟨hp, hp1⟩ <;> rcases mem_put h.nhol hq with rfl | ⟨hq, hq1⟩
    · exact absurd rfl hne
    · exact fun hv => clash q hq hq1 j hv hj
    · exact clash p hp hp1 j hj
    · exact h.sep p hp q hq hne j hj
/-- nobody has a text any more -/
theorem MInv.delhol {B mb : Nat} {d : MD} {w w1 : World} (h : MInv B mb d w) (k : TK) (hf : Fr (fun j => j = d.mh) w w1) (hm : M.MapIs tv w1 d.mh (M.del (mapv (·.v) d.hol) k)) :
    MStep B mb d w { d with hol := M.del d.hol k } w1 := by
  have hmb : mb ≠ d.mh := map_not_cells h.cells h.mhol
  have hfoot : ∀ j, Foot mb { d with hol := M.del d.hol k } j → Foot mb d j ∨ w.heap.size ≤ j := fun j hj => by
    rcases hj with h1 | h1 | h1 | ⟨p, hp, hj⟩
    · exact .inl (.inl h1)
    · exact .inl (.inr (.inl h1))
    · exact .inl (.inr (.inr (.inl h1)))
    · exact .inl (.inr (.inr (.inr ⟨p, M.mem_del hp, hj⟩)))
  have hfr : Fr (Foot mb d) w w1 := ⟨hf.os, hf.tape, hf.output, hf.size, fun j hj hF => hf.block j hj (fun e => hF (.inr (.inr (.inl e))))⟩
  refine ⟨⟨(hf.block mb h.lt hmb).trans h.cells, h.hB, h.apart, h.mobs.of_block (hf.block _ h.mobs.lt h.apart), ?_, h.nobs, M.nodup_del h.nhol _, h.keys, fun p hp => (h.objs p hp).fr hfr hfoot, fun p hp => ?_,
    fun p hp q hq hne j hj => h.sep p (M.mem_del hp) q (M.mem_del hq) hne j hj⟩, hfoot, hfr⟩
  · rw [mapv_del]; exact hm
  · have hp' := M.mem_del hp
    refine owns_kept (h.rows p hp') fun j hj => hf.block j (owns_lt (h.rows p hp') hj) ?_
    obtain ⟨c, hc⟩ := owns_block (h.rows p hp') hj
    exact map_not_cells hc h.mhol
/-- an object is stored -/
theorem MInv.putob {B mb : Nat} {d : MD} {w w1 : World} (h : MInv B mb d w) (x : OV) (hx : OOk (Foot mb d) w x) (hf : Fr (fun j => j = d.mo) w w1) (hm : M.MapIs rv w1 d.mo (M.put (mapv ov d.obs) (refOf x.o) (ov x))) :
    MStep B mb d w { d with obs := M.put d.obs (refOf x.o) x } w1 := by
  have hmb : mb ≠ d.mo := map_not_cells h.cells h.mobs
  have hfr : Fr (Foot mb d) w w1 := ⟨hf.os, hf.tape, hf.output, hf.size, fun j hj hF => hf.block j hj (fun e => hF (.inr (.inl e)))⟩
  refine ⟨⟨(hf.block mb h.lt hmb).trans h.cells, h.hB, h.apart, ?_, h.mhol.of_block (hf.block _ h.mhol.lt h.apart.symm), M.nodup_put h.nobs _ _, h.nhol, fun p hp => ?_, fun p hp => ?_, fun p hp => ?_, h.sep⟩, fun _ hj => .inl hj, hfr⟩
  · rw [mapv_put]; exact hm
  · rcases mem_put h.nobs hp with rfl | ⟨hp, _⟩
    · rfl
    · exact h.keys p hp
  · rcases mem_put h.nobs hp with rfl | ⟨hp, _⟩
    · exact hx.fr hfr (fun _ hj => .inl hj)
    · exact (h.objs p hp).fr hfr (fun _ hj => .inl hj)
  · refine owns_kept (h.rows p hp) fun j hj => hf.block j (owns_lt (h.rows p hp) hj) ?_
    obtain ⟨c, hc⟩ := owns_block (h.rows p hp) hj
    exact map_not_cells hc h.mobs
/-- an object goes -/
theorem MInv.delob {B mb : Nat} {d : MD} {w w1 : World} (h : MInv B mb d w) (r : Ref) (hf : Fr (fun j => j = d.mo) w w1) (hm : M.MapIs rv w1 d.mo (M.del (mapv ov d.obs) r)) :
    MStep B mb d w { d with obs := M.del d.obs r } w1 := by
  have hmb : mb ≠ d.mo := map_not_cells h.cells h.mobs
  have hfr : Fr (Foot mb d) w w1 := ⟨hf.os, hf.tape, hf.output, hf.size, fun j hj hF => hf.block j hj (fun e => hF (.inr (.inl e)))⟩
  refine ⟨⟨(hf.block mb h.lt hmb).trans h.cells, h.hB, h.apart, ?_, h.mhol.of_block (hf.block _ h.mhol.lt h.apart.symm), M.nodup_del h.nobs _, h.nhol, fun p hp => h.keys p (M.mem_del hp), fun p hp => (h.objs p (M.mem_del hp)).fr hfr (fun _ hj => .inl hj), fun p hp => ?_, h.sep⟩, fun _ hj => .inl hj, hfr⟩
  · rw [mapv_del]; exact hm
  · refine owns_kept (h.rows p hp) fun j hj => hf.block j (owns_lt (h.rows p hp) hj) ?_
    obtain ⟨c, hc⟩ := owns_block (h.rows p hp) hj
    exact map_not_cells hc h.mobs
end Go.Proofs.Ytmbmnldheilffaa
