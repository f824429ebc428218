/- The reference's disk in memory: one row behind a struct; Step, At. -/
import Derived.Test.YtdmjbdecemajpaaDl3
import Derived.Laws.OwnMore
namespace Go.Proofs.Ytdmjbdecemajpaa.D
set_option linter.unusedVariables false
set_option linter.unusedSimpArgs false
open Go.RowKit
theorem owns_block {w : World} {B e size n : Nat} {v : Value} {xs : List Value} (h : w.ownsRow B e size v n xs) {j : Nat} (hj : v.ownBlock = some j) : ∃ c, w.heap[j]? = some (.cells c e (0, 0)) := by
  obtain ⟨_, ⟨rfl, rfl⟩ | ⟨g, cap, cur, rfl, hb, hh, _⟩⟩ := h
  · simp [Value.ownBlock] at hj
  · have : g = j := by simpa [Value.ownBlock] using hj
    subst this; exact ⟨_, hh⟩
theorem owns_kept {w w1 : World} {B e size n : Nat} {v : Value} {xs : List Value} (h : w.ownsRow B e size v n xs) (hk : ∀ j, v.ownBlock = some j → w1.heap[j]? = w.heap[j]?) : w1.ownsRow B e size v n xs := by
  obtain ⟨hl, ⟨rfl, rfl⟩ | ⟨g, cap, cur, rfl, hb, hh, r⟩⟩ := h
  · exact ⟨hl, .inl ⟨rfl, rfl⟩⟩
  · exact ⟨hl, .inr ⟨g, cap, cur, rfl, hb, (hk g rfl).trans hh, r⟩⟩
theorem owns_base_le {w : World} {B B' e size n : Nat} {v : Value} {xs : List Value} (h : w.ownsRow B' e size v n xs) (hb : B ≤ B') : w.ownsRow B e size v n xs := by
  obtain ⟨hl, h | ⟨g, cap, cur, rfl, h1, h2⟩⟩ := h
  · exact ⟨hl, .inl h⟩
  · exact ⟨hl, .inr ⟨g, cap, cur, rfl, Nat.le_trans hb h1, h2⟩⟩
theorem owns_lt {w : World} {B e size n : Nat} {v : Value} {xs : List Value} (h : w.ownsRow B e size v n xs) {j : Nat} (hj : v.ownBlock = some j) : j < w.heap.size := by
  obtain ⟨c, hc⟩ := owns_block h hj
  exact (Array.getElem?_eq_some_iff.1 hc).1
theorem cells_not {w : World} {a b : Nat} {c c' : Array Value} {e e' : TypeId} {f f' : Nat × Nat} (h : w.heap[a]? = some (.cells c e f)) (k : w.heap[b]? = some (.cells c' e' f')) (hne : e ≠ e') : a ≠ b := by
  rintro rfl
  rw [h] at k; injection k with k; injection k with _ k _; exact hne k
theorem flat3 {T : Type} (f : T → List Value) (hf : ∀ a, (f a).length = 3) : ∀ (l : List T) (k : Nat) (h : k < l.length) (j : Nat), j < 3 → (l.flatMap f)[k * 3 + j]? = (f l[k])[j]?
  | a :: l, 0, _, j, hj => by
    rw [List.flatMap_cons, List.getElem?_append_left (by rw [hf]; omega)]
    simp
  | a :: l, k + 1, h, j, hj => by
    have := flat3 f hf l k (by simpa using h) j hj
    rw [List.flatMap_cons, List.getElem?_append_right (by rw [hf]; omega), hf]
    rw [show (k + 1) * 3 + j - 3 = k * 3 + j by omega]
    simpa using this
theorem len3 {T : Type} (f : T → List Value) (hf : ∀ a, (f a).length = 3) (l : List T) : (l.flatMap f).length = l.length * 3 := by
  induction l with
  | nil => rfl
  | cons a l ih => rw [List.flatMap_cons, List.length_append, ih, hf, List.length_cons]; omega
theorem row3 {T : Type} {f : T → List Value} (hf : ∀ a, (f a).length = 3) {w : World} {B e : Nat} {v : Value} {l : List T} {n : Nat} (h : w.ownsRow B e 3 v n (l.flatMap f)) :
    n = l.length ∧ ∃ A c, v = .slice A n c ∧ ∀ k (hk : k < l.length), ∃ g, A = some ⟨g, 0, none⟩ ∧ ∀ V, Below w.heap.size w V → ∀ j, j < 3 → V.cell? ⟨g, k * 3 + j, none⟩ = (f l[k])[j]? := by
  have hx := G.HasRow.of_owns h
  obtain ⟨hl, hh⟩ := h
  rw [len3 f hf] at hl
  refine ⟨by omega, ?_⟩
  rcases hh with ⟨rfl, rfl⟩ | ⟨g, cap, cur, rfl, h1, h2, h3, h4⟩
  · exact ⟨none, 0, rfl, fun k hk => by omega⟩
  · refine ⟨_, cap, rfl, fun k hk => ⟨g, rfl, fun V hb j hj => ?_⟩⟩
    obtain ⟨_, A, c, hv, _, _, hc⟩ := hx
    cases hv
    have hjk := flat3 f hf l k hk j hj
    have hsome : ∃ u, (f l[k])[j]? = some u := ⟨(f l[k])[j]'(by rw [hf]; exact hj), List.getElem?_eq_getElem _⟩
    obtain ⟨u, hu⟩ := hsome
    rw [hu]
    obtain ⟨ad, ha, hcell⟩ := hc (k * 3 + j) u (by rw [hjk]; exact hu)
    cases ha
    rw [G.add_plain, Nat.zero_add] at hcell
    exact G.cell_below hb hcell
/-- a file: its number, what is safe, the tail -/
structure RF where
  no : Int
  safe : ByteArray
  tail : ByteArray
def rfc (x : RF) : List Value := [.int .i64 x.no, .string x.safe, .string x.tail]
/-- the reference's disk while it is on and bears no fuse -/
structure RS where
  fs : List RF
  steps : Int
def rcells (s : RS) (v : Value) : Array Value := #[v, .bool false, .int .i64 0, .int .i64 s.steps]
def RFoot (rb : Nat) (v : Value) (j : Nat) : Prop := j = rb ∨ v.ownBlock = some j
structure RInv (B rb : Nat) (s : RS) (v : Value) (w : World) : Prop where
  cells : w.heap[rb]? = some (.cells (rcells s v) 39 (0, 0))
  hB : B ≤ rb
  row : w.ownsRow B 57 3 v s.fs.length (s.fs.flatMap rfc)
theorem RInv.off {B rb : Nat} {s : RS} {v : Value} {w : World} (h : RInv B rb s v w) : v.ownBlock ≠ some rb := fun e => by
  obtain ⟨c, hc⟩ := owns_block h.row e
  exact cells_not hc h.cells (by decide) rfl
theorem RInv.lt {B rb : Nat} {s : RS} {v : Value} {w : World} (h : RInv B rb s v w) : rb < w.heap.size := (Array.getElem?_eq_some_iff.1 h.cells).1
theorem RInv.foot_lt {B rb : Nat} {s : RS} {v : Value} {w : World} (h : RInv B rb s v w) {j : Nat} (hj : RFoot rb v j) : j < w.heap.size := by
  rcases hj with rfl | hi
  · exact h.lt
  · exact owns_lt h.row hi
theorem RInv.foot_B {B rb : Nat} {s : RS} {v : Value} {w : World} (h : RInv B rb s v w) {j : Nat} (hj : RFoot rb v j) : B ≤ j := by
  rcases hj with rfl | hi
  · exact h.hB
  · exact G.owns_base h.row j hi
theorem RInv.keep {B rb : Nat} {s : RS} {v : Value} {w w1 : World} (h : RInv B rb s v w) (hk : ∀ j, RFoot rb v j → w1.heap[j]? = w.heap[j]?) : RInv B rb s v w1 :=
  ⟨(hk rb (.inl rfl)).trans h.cells, h.hB, owns_kept h.row fun j hj => hk j (.inr hj)⟩
theorem RInv.below {B rb : Nat} {s : RS} {v : Value} {w w1 : World} (h : RInv B rb s v w) (hb : Below w.heap.size w w1) : RInv B rb s v w1 := h.keep fun j hj => hb.block j (h.foot_lt hj)
theorem RInv.cell {B rb : Nat} {s : RS} {v : Value} {w : World} (h : RInv B rb s v w) (i : Nat) : w.cell? ⟨rb, i, none⟩ = (rcells s v)[i]? := by simp [World.cell?, h.cells]
theorem RInv.free {B rb : Nat} {s : RS} {v : Value} {w : World} (h : RInv B rb s v w) (i : Nat) : w.frozen? ⟨rb, i, none⟩ = false := by simp [World.frozen?, h.cells]
theorem RInv.c0 {B rb : Nat} {s : RS} {v : Value} {w : World} (h : RInv B rb s v w) : w.cell? ⟨rb, 0, none⟩ = some v := by rw [h.cell]; rfl
theorem RInv.c1 {B rb : Nat} {s : RS} {v : Value} {w : World} (h : RInv B rb s v w) : w.cell? ⟨rb, 1, none⟩ = some (.bool false) := by rw [h.cell]; rfl
theorem RInv.c2 {B rb : Nat} {s : RS} {v : Value} {w : World} (h : RInv B rb s v w) : w.cell? ⟨rb, 2, none⟩ = some (.int .i64 0) := by rw [h.cell]; rfl
theorem RInv.c3 {B rb : Nat} {s : RS} {v : Value} {w : World} (h : RInv B rb s v w) : w.cell? ⟨rb, 3, none⟩ = some (.int .i64 s.steps) := by rw [h.cell]; rfl
/-- a call on the reference's disk has turned it into s' -/
def RStep (B rb : Nat) (v : Value) (w : World) (s' : RS) (w' : World) : Prop :=
  ∃ v', RInv B rb s' v' w' ∧ (∀ j, RFoot rb v' j → RFoot rb v j ∨ w.heap.size ≤ j) ∧ Fr (RFoot rb v) w w'
theorem RStep.refl {B rb : Nat} {s : RS} {v : Value} {w : World} (h : RInv B rb s v w) : RStep B rb v w s w := ⟨v, h, fun _ hj => .inl hj, Fr.refl _ _⟩
theorem RStep.from' {B rb : Nat} {s' : RS} {v : Value} {w w1 w' : World} (hf : Fr (RFoot rb v) w w1) (h : RStep B rb v w1 s' w') : RStep B rb v w s' w' := by
  obtain ⟨v', h1, h2, h3⟩ := h
  exact ⟨v', h1, fun j hj => (h2 j hj).imp id (fun h => Nat.le_trans hf.size h), hf.trans h3 (fun j hj => .inl hj)⟩
theorem RStep.then {B rb : Nat} {s1 s2 : RS} {v : Value} {w w1 w2 : World} (h : RStep B rb v w s1 w1) (k : ∀ v1, RInv B rb s1 v1 w1 → RStep B rb v1 w1 s2 w2) : RStep B rb v w s2 w2 := by
  obtain ⟨v1, h1, h2, h3⟩ := h
  obtain ⟨v2, k1, k2, k3⟩ := k v1 h1
  refine ⟨v2, k1, fun j hj => ?_, h3.trans k3 h2⟩
  rcases k2 j hj with h4 | h4
  · exact h2 j h4
  · exact .inr (Nat.le_trans h3.size h4)
theorem RStep.low {B rb : Nat} {s1 : RS} {v : Value} {w w1 w2 : World} (h : RStep B rb v w s1 w1) (hb : Below w1.heap.size w1 w2) : RStep B rb v w s1 w2 := by
  obtain ⟨v1, h1, h2, h3⟩ := h
  exact ⟨v1, h1.below hb, h2, h3.trans (Fr.of_below (F := RFoot rb v1) hb) h2⟩
theorem RStep.below {B rb : Nat} {s s1 : RS} {v : Value} {w0 w w1 : World} (h : RInv B rb s v w) (hb : Below B w0 w) (k : RStep B rb v w s1 w1) : Below B w0 w1 := by
  obtain ⟨v1, h1, h2, h3⟩ := k
  exact Fr.below hb (Nat.le_trans h.hB (Nat.le_of_lt h.lt)) h3 (fun _ hj => h.foot_B hj)
/-- the row is another one, its cell stored -/
theorem RInv.set {B rb : Nat} {s : RS} {v : Value} {w w1 : World} (h : RInv B rb s v w) (x : Value) (l : List RF) (n : Nat) (hb : Below w.heap.size w w1) (ho : w1.ownsRow w.heap.size 57 3 x n (l.flatMap rfc)) (hn : n = l.length) :
    RStep B rb v w ⟨l, s.steps⟩ (w1.setCell ⟨rb, 0, none⟩ x) := by
  subst hn
  have hrb : w1.heap[rb]? = some (.cells (rcells s v) 39 (0, 0)) := (hb.block rb h.lt).trans h.cells
  have hxr : x.ownBlock ≠ some rb := fun e => by
    obtain ⟨c, hc⟩ := owns_block ho e
    exact cells_not hc hrb (by decide) rfl
  have kp : ∀ j, j ≠ rb → (w1.setCell ⟨rb, 0, none⟩ x).heap[j]? = w1.heap[j]? := fun j hj => Below.heap_setCell _ _ _ _ hj
  refine ⟨x, ⟨?_, h.hB, ?_⟩, fun j hj => ?_, ?_⟩
  · rw [heap_setCell_same _ _ _ _ _ _ hrb]; rfl
  · exact owns_kept (owns_base_le ho (Nat.le_trans h.hB (Nat.le_of_lt h.lt))) fun j hj => kp j (fun e => hxr (e ▸ hj))
  · rcases hj with rfl | hj
    · exact .inl (.inl rfl)
    · exact .inr (G.owns_base ho j hj)
  · refine ⟨hb.os, hb.tape, hb.output, ?_, fun j hj hF => ?_⟩
    · have := hb.size
      simpa [World.setCell] using this
    · exact (kp j (fun e => hF (.inl e))).trans (hb.block j hj)
/-- the row is written in place -/
theorem RInv.poke {B rb : Nat} {s : RS} {v : Value} {w w1 : World} (h : RInv B rb s v w) (l : List RF) (hg : w.grownBy w1 v.ownBlock) (ho : w1.ownsRow B 57 3 v s.fs.length (l.flatMap rfc)) (hn : l.length = s.fs.length) : RStep B rb v w ⟨l, s.steps⟩ w1 := by
  have kg : ∀ j, j < w.heap.size → v.ownBlock ≠ some j → w1.heap[j]? = w.heap[j]? := fun j hj hne => hg.block j hj (fun e => hne e.symm)
  refine ⟨v, ⟨?_, h.hB, ?_⟩, fun j hj => .inl hj, ⟨hg.os, hg.tape, hg.output, hg.size, fun j hj hF => kg j hj (fun e => hF (.inr e))⟩⟩
  · rw [kg rb h.lt h.off, h.cells]; rfl
  · rw [← hn] at ho; exact ho
/-- one more step -/
theorem RInv.stp {B rb : Nat} {s : RS} {v : Value} {w : World} (h : RInv B rb s v w) (n : Int) : RStep B rb v w ⟨s.fs, n⟩ (w.setCell ⟨rb, 3, none⟩ (.int .i64 n)) := by
  have kp : ∀ j, j ≠ rb → (w.setCell ⟨rb, 3, none⟩ (.int .i64 n)).heap[j]? = w.heap[j]? := fun j hj => Below.heap_setCell _ _ _ _ hj
  refine ⟨v, ⟨?_, h.hB, ?_⟩, fun j hj => .inl hj, ?_⟩
  · rw [heap_setCell_same _ _ _ _ _ _ h.cells]; rfl
  · exact owns_kept h.row fun j hj => kp j (fun e => h.off (e ▸ hj))
  · refine ⟨rfl, rfl, rfl, ?_, fun j hj hF => kp j (fun e => hF (.inl e))⟩
    simp [World.setCell]
set_option maxRecDepth 100000 in
set_option maxHeartbeats 2000000 in
theorem rstep_any (B rb : Nat) (s : RS) (v : Value) (w : World) (h : RInv B rb s v w) (hs : 0 ≤ s.steps ∧ s.steps ≤ 1000000000) :
    Calls Try.prog 27 #[.pointer (some ⟨rb, 0, none⟩)] w fun e w' => e = .returned (.bool false) ∧ RStep B rb v w ⟨s.fs, s.steps + 1⟩ w' := by
  have c2 := h.c2
  have c3 := h.c3
  have f3 := h.free 3
  have hlt := h.lt
  have hw : IntKind.i64.wrap (s.steps + 1) = s.steps + 1 := by rw [IntKind.wrap_i64]; omega
  have H := Lib.hid (h.stp (s.steps + 1))
  clear h
  go_enter Try.func27, Try.ntmps27
  go_wp2
  go_ret
  exact ⟨rfl, H.out⟩
def atI : List RF → Int → Int
  | [], _ => -1
  | x :: l, no => if x.no = no then 0 else (if atI l no < 0 then -1 else atI l no + 1)
theorem at_at : ∀ (l : List RF) (no : Int) (k : Nat) (hk : k < l.length), (∀ j (hj : j < l.length), j < k → l[j].no ≠ no) → l[k].no = no → atI l no = k
  | x :: l, no, 0, _, _, h => by simp only [List.getElem_cons_zero] at h; simp [atI, h]
  | x :: l, no, k + 1, hk, hno, h => by
    have hx : x.no ≠ no := hno 0 (by simp) (by omega)
    have := at_at l no k (by simpa using hk) (fun j hj h1 => by have := hno (j + 1) (by simp; omega) (by omega); simpa using this) (by simpa using h)
    rw [atI, if_neg hx, this, if_neg (by omega)]
    push_cast; rfl
theorem at_none : ∀ (l : List RF) (no : Int), (∀ j (hj : j < l.length), l[j].no ≠ no) → atI l no = -1
  | [], no, _ => rfl
  | x :: l, no, h => by
    have hx : x.no ≠ no := h 0 (by simp)
    rw [atI, if_neg hx, at_none l no (fun j hj => by have := h (j + 1) (by simp; omega); simpa using this)]
    rfl
set_option maxRecDepth 100000 in
set_option maxHeartbeats 2000000 in
theorem at_any (B rb : Nat) (s : RS) (v : Value) (no : Int) (w : World) (h : RInv B rb s v w) (hl : s.fs.length ≤ 1000000) :
    Calls Try.prog 25 #[.pointer (some ⟨rb, 0, none⟩), .int .i64 no] w fun e w' => e = .returned (.int .i64 (atI s.fs no)) ∧ Below w.heap.size w w' := by
  obtain ⟨hn, A, c, hv, hc⟩ := row3 (f := rfc) (fun _ => rfl) h.row
  obtain ⟨n, hn'⟩ : ∃ n, n = s.fs.length := ⟨_, rfl⟩
  rw [← hn'] at hv hl
  have c0 := h.c0
  rw [hv] at c0
  have hlt := h.lt
  have HVv := Lib.hid hv
  have HN := Lib.hid hn'
  have HC := Lib.hid hc
  have HI := Lib.hid h
  clear hn hc hv h hn'
  go_enter Try.func25, Try.ntmps25
  go_wp2
  go_loopw [5] (fun i wr => ∃ k : Nat, k ≤ n ∧ i = .int .i64 k ∧ Hid (Below w.heap.size w wr) ∧ Hid (∀ j (hj : j < s.fs.length), j < k → (s.fs[j]).no ≠ no)) (fun i _ => n - (intOf i).toNat)
  case atStart => exact ⟨0, by omega, by go_num, Lib.hid (Below.refl _ _), Lib.hid (by intro j _ h; omega)⟩
  case round =>
    obtain ⟨k, hk, rfl, HB, H⟩ := hrel
    have d0 := G.cell_below HB.out HI.out.c0
    rw [HVv.out] at d0
    have hlt2 : rb < wr.heap.size := Nat.lt_of_lt_of_le hlt HB.out.size
    by_cases hkn : k < n
    · have hka : k < s.fs.length := by have := HN.out; omega
      obtain ⟨g, hg, hcell⟩ := HC.out k hka
      subst hg
      have e0 := hcell wr HB.out 0 (by decide)
      obtain ⟨x, hx⟩ : ∃ x, x = s.fs[k] := ⟨_, rfl⟩
      rw [← hx] at e0
      replace e0 : wr.cell? ⟨g, k * 3, none⟩ = some (.int .i64 x.no) := e0
      have Hx := Lib.hid hx
      clear hx hcell
      by_cases he : x.no = no
      · have Hf := Lib.hid (show atI s.fs no = k from at_at _ _ k hka H.out (by rw [← Hx.out]; exact he))
        go_wp2
        go_ret
        exact ⟨by rw [Hf.out]; rfl, HB.out⟩
      · have Hnx : Hid (∀ j (hj : j < s.fs.length), j < k + 1 → (s.fs[j]).no ≠ no) := Lib.hid (by
          intro j hj h1 e
          rcases Nat.lt_or_ge j k with h2 | h2
          · exact H.out j hj h2 e
          · obtain rfl : j = k := by omega
            exact he (by rw [Hx.out]; exact e))
        go_wp2
        go_roundw
        case rel => exact ⟨k + 1, by omega, by go_num, HB, Hnx⟩
        case measure => simp [intOf]; omega
    · have hkn2 : k = n := by omega
      have Hf := Lib.hid (show atI s.fs no = -1 from at_none _ _ (fun j hj => H.out j hj (by have := HN.out; omega)))
      subst hkn2
      go_wp2
      go_ret
      exact ⟨by rw [Hf.out]; rfl, HB.out⟩
end Go.Proofs.Ytdmjbdecemajpaa.D
