/- The log in memory; begin, end, lay, what a log tells; a log that is not there. -/
import Derived.Test.YtdmjbdecemajpaaDoorDk7
import Derived.Test.YtdmjbdecemajpaaDoorDlP
import Derived.Test.YtdmjbdecemajpaaDoorFrm10
import Derived.StillTailTactics
import Derived.Deep.QuietTactic
import Derived.Laws.OwnMore
import Derived.Deep.RegionHeld3
namespace Go.Proofs.YtdmjbdecemajpaaDoor.D
set_option linter.unusedVariables false
set_option linter.unusedSimpArgs false
open Go.RowKit
theorem Okk.bd {s : DS} {k : Nat} (h : Okk s k) (hk : k ≤ 1000000) : Bd s :=
  ⟨by have := h.steps; omega, h.fuse, fun no => (fl_ok h.fl no).2, fun no => (fl_ok h.fl no).1, Nat.le_trans h.len (by decide)⟩
theorem Okk.rng {s : DS} {k : Nat} (h : Okk s k) : ∀ p ∈ s.files, 1 ≤ p.1 ∧ p.1 ≤ 1000000 := fun p hp => (h.fl p hp).1
theorem Okk.start : Okk DS0 0 := ⟨List.Pairwise.nil, Nat.zero_le _, fun p hp => by simp [DS0] at hp, ⟨Int.le_refl _, by show (0 : Int) ≤ _; omega⟩, ⟨Int.le_refl _, by show (0 : Int) ≤ _; omega⟩⟩
theorem owns_block {w : World} {B e size n : Nat} {v : Value} {xs : List Value} (h : w.ownsRow B e size v n xs) {j : Nat} (hj : v.ownBlock = some j) : ∃ c, w.heap[j]? = some (.cells c e (0, 0)) := by
  obtain ⟨_, ⟨rfl, rfl⟩ | ⟨g, cap, cur, rfl, hb, hh, _⟩⟩ := h
  · simp [Value.ownBlock] at hj
  · have : g = j := by simpa [Value.ownBlock] using hj
    subst this; exact ⟨_, hh⟩
theorem owns_kept {w w1 : World} {B e size n : Nat} {v : Value} {xs : List Value} (h : w.ownsRow B e size v n xs) (hk : ∀ j, v.ownBlock = some j → w1.heap[j]? = w.heap[j]?) : w1.ownsRow B e size v n xs := by
  obtain ⟨hl, ⟨rfl, rfl⟩ | ⟨g, cap, cur, rfl, hb, hh, r⟩⟩ := h
  · exact ⟨hl, .inl ⟨rfl, rfl⟩⟩
  · exact ⟨hl, .inr ⟨g, cap, cur, rfl, hb, (hk g rfl).trans hh, r⟩⟩
theorem owns_base_le {w : World} {B B' e size n : Nat} {v : Value} {xs : List Value} (h : w.ownsRow B' e size v n xs) (hb : B ≤ B') : w.ownsRow B e size v n xs := by
  obtain ⟨hl, h | ⟨g, cap, cur, rfl, h1, h2⟩⟩ := h
  · exact ⟨hl, .inl h⟩
  · exact ⟨hl, .inr ⟨g, cap, cur, rfl, Nat.le_trans hb h1, h2⟩⟩
theorem owns_lt {w : World} {B e size n : Nat} {v : Value} {xs : List Value} (h : w.ownsRow B e size v n xs) {j : Nat} (hj : v.ownBlock = some j) : j < w.heap.size := by
  obtain ⟨c, hc⟩ := owns_block h hj
  exact (Array.getElem?_eq_some_iff.1 hc).1
theorem cells_not {w : World} {a b : Nat} {c c' : Array Value} {e e' : TypeId} {f f' : Nat × Nat} (h : w.heap[a]? = some (.cells c e f)) (k : w.heap[b]? = some (.cells c' e' f')) (hne : e ≠ e') : a ≠ b := by
  rintro rfl
  rw [h] at k; injection k with k; injection k with _ k _; exact hne k
theorem owns_shape {w : World} {B e size n : Nat} {v : Value} {xs : List Value} (h : w.ownsRow B e size v n xs) : ∃ A c, v = .slice A n c := by
  obtain ⟨_, ⟨rfl, rfl⟩ | ⟨g, cap, cur, rfl, _⟩⟩ := h
  · exact ⟨_, _, rfl⟩
  · exact ⟨_, _, rfl⟩
/-- the state of a log -/
structure LS where
  gen : Int
  text : ByteArray
  recs : List ByteArray
  last : Int
  pend : Int
  over : Bool
def lcells (db : Nat) (L : LS) (v : Value) : Array Value := #[.pointer (some ⟨db, 0, none⟩), .int .i64 L.gen, .string L.text, v, .int .i64 L.last, .int .i64 L.pend, .bool L.over]
def LFoot (lb : Nat) (v : Value) (j : Nat) : Prop := j = lb ∨ v.ownBlock = some j
structure LInv (B db lb : Nat) (L : LS) (v : Value) (w : World) : Prop where
  cells : w.heap[lb]? = some (.cells (lcells db L v) 85 (0, 0))
  hB : B ≤ lb
  row : w.ownsRow B 9 1 v L.recs.length (strs L.recs)
theorem LInv.lt {B db lb : Nat} {L : LS} {v : Value} {w : World} (h : LInv B db lb L v w) : lb < w.heap.size := (Array.getElem?_eq_some_iff.1 h.cells).1
theorem LInv.foot_lt {B db lb : Nat} {L : LS} {v : Value} {w : World} (h : LInv B db lb L v w) {j : Nat} (hj : LFoot lb v j) : j < w.heap.size := by
  rcases hj with rfl | hi
  · exact h.lt
  · exact owns_lt h.row hi
theorem LInv.foot_B {B db lb : Nat} {L : LS} {v : Value} {w : World} (h : LInv B db lb L v w) {j : Nat} (hj : LFoot lb v j) : B ≤ j := by
  rcases hj with rfl | hi
  · exact h.hB
  · exact G.owns_base h.row j hi
theorem LInv.off {B db lb : Nat} {L : LS} {v : Value} {w : World} (h : LInv B db lb L v w) : v.ownBlock ≠ some lb := fun e => by
  obtain ⟨c, hc⟩ := owns_block h.row e
  exact cells_not hc h.cells (by decide) rfl
theorem LInv.keep {B db lb : Nat} {L : LS} {v : Value} {w w1 : World} (h : LInv B db lb L v w) (hk : ∀ j, LFoot lb v j → w1.heap[j]? = w.heap[j]?) : LInv B db lb L v w1 :=
  ⟨(hk lb (.inl rfl)).trans h.cells, h.hB, owns_kept h.row fun j hj => hk j (.inr hj)⟩
/-- disk and log, and the table of sums -/
structure DT (B db m : Nat) (s : DS) (w : World) : Prop where
  d : DInv B db m s w
  tab : TabOf w
  pos : 0 < B
structure WInv (B db m lb : Nat) (s : DS) (L : LS) (v : Value) (w : World) : Prop where
  t : DT B db m s w
  l : LInv B db lb L v w
def WFoot (db m lb : Nat) (v : Value) (j : Nat) : Prop := Foot db m j ∨ LFoot lb v j
theorem tab_fr {F : Nat → Prop} {w w1 : World} (h : TabOf w) (hf : Fr F w w1) (h0 : ¬ F 0) : TabOf w1 := fun j hj => by
  have h1 := h j hj
  rw [← h1]
  have hb := hf.block 0 (World.block_lt_of_cell? w _ h1) h0
  simp [World.cell?, hb]
theorem DT.low {B db m : Nat} {s : DS} {w w1 : World} (h : DT B db m s w) (hb : Below w.heap.size w w1) : DT B db m s w1 := ⟨h.d.below hb, h.tab.below hb, h.pos⟩
theorem DT.step {B db m : Nat} {s s' : DS} {w w1 : World} (h : DT B db m s w) (k : DStep B db m w s' w1) : DT B db m s' w1 :=
  ⟨k.1, tab_fr h.tab k.2 (fun hf => by have := h.d.foot_B hf; have := h.pos; omega), h.pos⟩
theorem DInv.m_not {B db m : Nat} {s : DS} {w : World} (h : DInv B db m s w) {j : Nat} {c : Array Value} {e : TypeId} {f : Nat × Nat} (hj : w.heap[j]? = some (.cells c e f)) (he : e ≠ 81) : ¬ Foot db m j := by
  rintro (rfl | rfl)
  · exact cells_not hj h.cells he rfl
  · obtain ⟨es, ck, hh, _⟩ := h.map
    rw [hj] at hh; cases hh
theorem WInv.apart {B db m lb : Nat} {s : DS} {L : LS} {v : Value} {w : World} (h : WInv B db m lb s L v w) {j : Nat} (hj : LFoot lb v j) : ¬ Foot db m j := by
  rcases hj with rfl | hj
  · exact h.t.d.m_not h.l.cells (by decide)
  · obtain ⟨c, hc⟩ := owns_block h.l.row hj
    exact h.t.d.m_not hc (by decide)
theorem WInv.foot_lt {B db m lb : Nat} {s : DS} {L : LS} {v : Value} {w : World} (h : WInv B db m lb s L v w) {j : Nat} (hj : WFoot db m lb v j) : j < w.heap.size := by
  rcases hj with hj | hj
  · exact h.t.d.foot_lt hj
  · exact h.l.foot_lt hj
theorem WInv.foot_B {B db m lb : Nat} {s : DS} {L : LS} {v : Value} {w : World} (h : WInv B db m lb s L v w) {j : Nat} (hj : WFoot db m lb v j) : B ≤ j := by
  rcases hj with hj | hj
  · exact h.t.d.foot_B hj
  · exact h.l.foot_B hj
theorem WInv.low {B db m lb : Nat} {s : DS} {L : LS} {v : Value} {w w1 : World} (h : WInv B db m lb s L v w) (hb : Below w.heap.size w w1) : WInv B db m lb s L v w1 :=
  ⟨h.t.low hb, h.l.keep fun j hj => hb.block j (h.l.foot_lt hj)⟩
theorem WInv.dstep {B db m lb : Nat} {s s' : DS} {L : LS} {v : Value} {w w1 : World} (h : WInv B db m lb s L v w) (k : DStep B db m w s' w1) : WInv B db m lb s' L v w1 :=
  ⟨h.t.step k, h.l.keep fun j hj => k.2.block j (h.l.foot_lt hj) (h.apart hj)⟩
theorem Fr.wide {F G : Nat → Prop} {w w1 : World} (h : Fr F w w1) (hG : ∀ j, F j → G j) : Fr G w w1 := ⟨h.os, h.tape, h.output, h.size, fun j hj hn => h.block j hj (fun hf => hn (hG j hf))⟩
/-- a call on the log has turned both -/
def WStep (B db m lb : Nat) (v : Value) (w : World) (s' : DS) (L' : LS) (w' : World) : Prop :=
  ∃ v', WInv B db m lb s' L' v' w' ∧ (∀ j, WFoot db m lb v' j → WFoot db m lb v j ∨ w.heap.size ≤ j) ∧ Fr (WFoot db m lb v) w w'
theorem WStep.same {B db m lb : Nat} {s : DS} {L : LS} {v : Value} {w w1 : World} (h : WInv B db m lb s L v w) (hb : Below w.heap.size w w1) : WStep B db m lb v w s L w1 := ⟨v, h.low hb, fun j hj => .inl hj, Fr.of_below hb⟩
theorem WStep.disk {B db m lb : Nat} {s s' : DS} {L : LS} {v : Value} {w w1 : World} (h : WInv B db m lb s L v w) (k : DStep B db m w s' w1) : WStep B db m lb v w s' L w1 := ⟨v, h.dstep k, fun j hj => .inl hj, k.2.wide fun j hj => .inl hj⟩
theorem WStep.then {B db m lb : Nat} {s1 s2 : DS} {L1 L2 : LS} {v : Value} {w w1 w2 : World} (h : WStep B db m lb v w s1 L1 w1) (k : ∀ v1, WInv B db m lb s1 L1 v1 w1 → WStep B db m lb v1 w1 s2 L2 w2) : WStep B db m lb v w s2 L2 w2 := by
  obtain ⟨v1, h1, h2, h3⟩ := h
  obtain ⟨v2, k1, k2, k3⟩ := k v1 h1
  refine ⟨v2, k1, fun j hj => ?_, h3.trans k3 h2⟩
  rcases k2 j hj with h4 | h4
  · exact h2 j h4
  · exact .inr (Nat.le_trans h3.size h4)
theorem WStep.low {B db m lb : Nat} {s1 : DS} {L1 : LS} {v : Value} {w w1 w2 : World} (h : WStep B db m lb v w s1 L1 w1) (hb : Below w1.heap.size w1 w2) : WStep B db m lb v w s1 L1 w2 := h.then fun v1 h1 => WStep.same h1 hb
theorem WStep.below {B db m lb : Nat} {s s1 : DS} {L L1 : LS} {v : Value} {w0 w w1 : World} (h : WInv B db m lb s L v w) (hb : Below B w0 w) (k : WStep B db m lb v w s1 L1 w1) : Below B w0 w1 := by
  obtain ⟨v1, h1, h2, h3⟩ := k
  exact Fr.below hb (Nat.le_trans h.l.hB (Nat.le_of_lt h.l.lt)) h3 (fun _ hj => h.foot_B hj)
theorem LInv.cell {B db lb : Nat} {L : LS} {v : Value} {w : World} (h : LInv B db lb L v w) (i : Nat) : w.cell? ⟨lb, i, none⟩ = (lcells db L v)[i]? := by simp [World.cell?, h.cells]
theorem LInv.free {B db lb : Nat} {L : LS} {v : Value} {w : World} (h : LInv B db lb L v w) (i : Nat) : w.frozen? ⟨lb, i, none⟩ = false := by simp [World.frozen?, h.cells]
/-- its seven cells -/
theorem LInv.cs {B db lb : Nat} {L : LS} {v : Value} {w : World} (h : LInv B db lb L v w) : w.cell? ⟨lb, 0, none⟩ = some (.pointer (some ⟨db, 0, none⟩)) ∧ w.cell? ⟨lb, 1, none⟩ = some (.int .i64 L.gen) ∧ w.cell? ⟨lb, 2, none⟩ = some (.string L.text) ∧ w.cell? ⟨lb, 3, none⟩ = some v ∧ w.cell? ⟨lb, 4, none⟩ = some (.int .i64 L.last) ∧ w.cell? ⟨lb, 5, none⟩ = some (.int .i64 L.pend) ∧ w.cell? ⟨lb, 6, none⟩ = some (.bool L.over) := by
  refine ⟨?_, ?_, ?_, ?_, ?_, ?_, ?_⟩ <;> (rw [h.cell]; rfl)
/-- one cell is stored, not the row's -/
theorem WInv.seti {B db m lb : Nat} {s : DS} {L L' : LS} {v : Value} {w : World} (h : WInv B db m lb s L v w) (i : Nat) (x : Value) (hc : (lcells db L v).setIfInBounds i x = lcells db L' v) (hr : L'.recs = L.recs) : WStep B db m lb v w s L' (w.setCell ⟨lb, i, none⟩ x) := by
  have kp : ∀ j, j ≠ lb → (w.setCell ⟨lb, i, none⟩ x).heap[j]? = w.heap[j]? := fun j hj => Below.heap_setCell _ _ _ _ hj
  have hf : Fr (WFoot db m lb v) w (w.setCell ⟨lb, i, none⟩ x) := ⟨rfl, rfl, rfl, by simp [World.setCell], fun j hj hn => kp j (fun e => hn (.inr (.inl e)))⟩
  refine ⟨v, ⟨⟨h.t.d.keep fun j hj => kp j (fun e => h.apart (.inl e) hj), tab_fr h.t.tab hf (fun h0 => by have := h.foot_B h0; have := h.t.pos; omega), h.t.pos⟩, ?_, h.l.hB, ?_⟩, fun j hj => .inl hj, hf⟩
  · rw [heap_setCell_same _ _ _ _ _ _ h.l.cells, hc]
  · rw [hr]; exact owns_kept h.l.row fun j hj => kp j (fun e => h.l.off (e ▸ hj))
set_option maxHeartbeats 400000 in
theorem begin_any (g : Int) (h : 0 ≤ g ∧ g ≤ 100000) (w : World) : Calls Tryd.prog 53 #[.int .i64 g] w fun e w' => e = .returned (.int .i64 (g * 100)) ∧ w' = w := by
  go_enter Tryd.func53, Tryd.ntmps53
  go_wp2
  go_ret
  exact ⟨rfl, rfl⟩
set_option maxHeartbeats 400000 in
theorem end_any (B db m lb : Nat) (s : DS) (L : LS) (v : Value) (x : Int) (w : World) (h : WInv B db m lb s L v w) :
    Calls Tryd.prog 57 #[.pointer (some ⟨lb, 0, none⟩), .int .i64 x] w fun e w' => e = .returned (.int .i64 x) ∧ WStep B db m lb v w s { L with over := L.over || decide (x ≠ 0) } w' := by
  have c6 := h.l.cs.2.2.2.2.2.2
  have f6 := h.l.free 6
  have hlt := h.l.lt
  cases ho : L.over
  · rw [ho] at c6
    by_cases hx : x = 0
    · subst hx
      have HP := Lib.hid (h.seti (L' := { L with over := false || decide ((0 : Int) ≠ 0) }) 6 (.bool false) rfl rfl)
      clear h ho
      go_enter Tryd.func57, Tryd.ntmps57
      go_wp2
      go_ret
      exact ⟨rfl, HP.out⟩
    · have HP := Lib.hid (h.seti (L' := { L with over := false || decide (x ≠ 0) }) 6 (.bool true) (by rw [decide_eq_true hx]; rfl) rfl)
      have hxb : (x != 0) = true := by simpa using hx
      clear h ho
      go_enter Tryd.func57, Tryd.ntmps57
      go_wp2
      go_ret
      exact ⟨rfl, HP.out⟩
  · rw [ho] at c6
    have HP := Lib.hid (h.seti (L' := { L with over := true || decide (x ≠ 0) }) 6 (.bool true) rfl rfl)
    clear h ho
    go_enter Tryd.func57, Tryd.ntmps57
    go_wp2
    go_ret
    exact ⟨rfl, HP.out⟩
/-- a generation's beginning is laid -/
def layE (s : DS) (g : Int) (t : ByteArray) : Int := if appE s (g * 100) (frm t) ≠ 0 then appE s (g * 100) (frm t) else synE (appS s (g * 100) (frm t)) (g * 100)
def layS' (s : DS) (g : Int) (t : ByteArray) : DS := if appE s (g * 100) (frm t) ≠ 0 then appS s (g * 100) (frm t) else synS (appS s (g * 100) (frm t)) (g * 100)
set_option maxHeartbeats 1000000 in
theorem lay_any (B db m : Nat) (s : DS) (k : Nat) (g : Int) (t : ByteArray) (w : World) (h : DT B db m s w) (hO : Okk s k) (hk : k ≤ 900000) (hg : 0 ≤ g ∧ g ≤ 100000) (ht : t.size ≤ 65536) :
    Calls Tryd.prog 60 #[.pointer (some ⟨db, 0, none⟩), .int .i64 g, .string t] w fun e w' => e = .returned (.int .i64 (layE s g t)) ∧ DStep B db m w (layS' s g t) w' := by
  have HT := Lib.hid h
  have HO := Lib.hid hO
  have hfs := frm_size t
  obtain ⟨F, hF⟩ : ∃ F, frm t = F := ⟨_, rfl⟩
  have CF := fun W hW => fOf_any t ht W hW
  have HPost : Hid (layE s g t = (if appE s (g * 100) F ≠ 0 then appE s (g * 100) F else synE (appS s (g * 100) F) (g * 100)) ∧ layS' s g t = (if appE s (g * 100) F ≠ 0 then appS s (g * 100) F else synS (appS s (g * 100) F) (g * 100))) := Lib.hid ⟨by rw [layE, hF], by rw [layS', hF]⟩
  rw [hF] at hfs CF
  have CF := Lib.hid CF
  clear h hO hF
  go_enter Tryd.func60, Tryd.ntmps60
  go_upto_region 2 with (go_at_call 20; refine Calls.mono (CF.out _ (Lib.hid HT.out.tab)) ?_; rintro e w1 ⟨rfl, hb1⟩)
  have HT1 := Lib.hid (HT.out.low hb1)
  have HB1 := Lib.hid hb1
  have hO1 := HO.out.app (g * 100) F
  obtain ⟨E, hE⟩ : ∃ E, appE s (g * 100) F = E := ⟨_, rfl⟩
  obtain ⟨s1, hs1⟩ : ∃ s1, appS s (g * 100) F = s1 := ⟨_, rfl⟩
  have CA := append_any B db m s (g * 100) F w1 HT1.out.d (HO.out.bd (by omega)) (by omega)
  have HPost := HPost.out
  rw [hE, hs1] at CA HPost
  rw [hs1] at hO1
  have HO1 := Lib.hid hO1
  have CA := Lib.hid CA
  have HPost := Lib.hid HPost
  clear hb1 hO1 hE hs1
  go_upto_region 5 with (first | (go_at_call 53; refine (begin_any g hg _).mono ?_; rintro e w2 ⟨rfl, rfl⟩) | (go_at_call 58; refine CA.out.mono ?_; rintro e w2 ⟨rfl, hs2⟩))
  have HS2 := Lib.hid hs2
  clear hs2
  by_cases hE0 : E = 0
  · subst hE0
    have CS := Lib.hid (sync_any B db m s1 (g * 100) w2 HS2.out.1 (HO1.out.bd (by omega)))
    go_wp2_with (first | (go_at_call 53; refine (begin_any g hg _).mono ?_; rintro e w3 ⟨rfl, rfl⟩) | (go_at_call 59; refine CS.out.mono ?_; rintro e w3 ⟨rfl, hs3⟩))
    go_ret
    rw [HPost.out.1, HPost.out.2]
    exact ⟨rfl, DStep.from' (Fr.of_below HB1.out) (DStep.from' HS2.out.2 hs3)⟩
  · have HP1 := Lib.hid (HPost.out.1.trans (if_pos hE0))
    have HP2 := Lib.hid (HPost.out.2.trans (if_pos hE0))
    have hE1 : (E != 0) = true := by simpa using hE0
    clear HPost
    go_wp2_with (fail)
    go_ret
    rw [HP1.out, HP2.out]
    exact ⟨rfl, DStep.from' (Fr.of_below HB1.out) HS2.out⟩
set_option maxHeartbeats 400000 in
theorem Text_any (B db m lb : Nat) (s : DS) (L : LS) (v : Value) (w : World) (h : WInv B db m lb s L v w) : Calls Tryd.prog 36 #[.pointer (some ⟨lb, 0, none⟩)] w fun e w' => e = .returned (.string L.text) ∧ w' = w := by
  have c := h.l.cs.2.2.1
  have hlt := h.l.lt
  clear h
  go_enter Tryd.func36, Tryd.ntmps36
  go_wp2
  go_ret
  exact ⟨rfl, rfl⟩
set_option maxHeartbeats 400000 in
theorem Text_nil (w : World) : Calls Tryd.prog 36 #[.pointer none] w fun e w' => e = .returned (.string ⟨#[]⟩) ∧ w' = w := by
  go_enter Tryd.func36, Tryd.ntmps36
  go_wp2
  go_ret
  exact ⟨rfl, rfl⟩
set_option maxHeartbeats 400000 in
theorem Generation_any (B db m lb : Nat) (s : DS) (L : LS) (v : Value) (w : World) (h : WInv B db m lb s L v w) : Calls Tryd.prog 38 #[.pointer (some ⟨lb, 0, none⟩)] w fun e w' => e = .returned (.int .i64 L.gen) ∧ w' = w := by
  have c := h.l.cs.2.1
  have hlt := h.l.lt
  clear h
  go_enter Tryd.func38, Tryd.ntmps38
  go_wp2
  go_ret
  exact ⟨rfl, rfl⟩
set_option maxHeartbeats 400000 in
theorem Generation_nil (w : World) : Calls Tryd.prog 38 #[.pointer none] w fun e w' => e = .returned (.int .i64 0) ∧ w' = w := by
  go_enter Tryd.func38, Tryd.ntmps38
  go_wp2
  go_ret
  exact ⟨rfl, rfl⟩
set_option maxHeartbeats 400000 in
theorem Pending_any (B db m lb : Nat) (s : DS) (L : LS) (v : Value) (w : World) (h : WInv B db m lb s L v w) : Calls Tryd.prog 39 #[.pointer (some ⟨lb, 0, none⟩)] w fun e w' => e = .returned (.int .i64 L.pend) ∧ w' = w := by
  have c := h.l.cs.2.2.2.2.2.1
  have hlt := h.l.lt
  clear h
  go_enter Tryd.func39, Tryd.ntmps39
  go_wp2
  go_ret
  exact ⟨rfl, rfl⟩
set_option maxHeartbeats 400000 in
theorem Pending_nil (w : World) : Calls Tryd.prog 39 #[.pointer none] w fun e w' => e = .returned (.int .i64 0) ∧ w' = w := by
  go_enter Tryd.func39, Tryd.ntmps39
  go_wp2
  go_ret
  exact ⟨rfl, rfl⟩
set_option maxHeartbeats 400000 in
theorem wAppend_nil (t : ByteArray) (w : World) : Calls Tryd.prog 33 #[.pointer none, .string t] w fun e w' => e = .returned (.int .i64 2) ∧ w' = w := by
  go_enter Tryd.func33, Tryd.ntmps33
  go_wp2
  go_ret
  exact ⟨rfl, rfl⟩
set_option maxHeartbeats 400000 in
theorem wSync_nil (w : World) : Calls Tryd.prog 34 #[.pointer none] w fun e w' => e = .returned (.int .i64 2) ∧ w' = w := by
  go_enter Tryd.func34, Tryd.ntmps34
  go_wp2
  go_ret
  exact ⟨rfl, rfl⟩
set_option maxHeartbeats 400000 in
theorem wRenew_nil (t : ByteArray) (w : World) : Calls Tryd.prog 35 #[.pointer none, .string t] w fun e w' => e = .returned (.int .i64 2) ∧ w' = w := by
  go_enter Tryd.func35, Tryd.ntmps35
  go_wp2
  go_ret
  exact ⟨rfl, rfl⟩
set_option maxHeartbeats 400000 in
theorem Records_nil (w : World) : Calls Tryd.prog 37 #[.pointer none] w fun e w' => e = .returned (.slice none 0 0) ∧ w' = w := by
  go_enter Tryd.func37, Tryd.ntmps37
  go_wp2
  go_ret
  exact ⟨rfl, rfl⟩
set_option maxHeartbeats 400000 in
theorem Format_nil (w : World) : Calls Tryd.prog 40 #[.pointer none] w fun e w' => e = .returned (.int .i64 2) ∧ w' = w := by
  go_enter Tryd.func40, Tryd.ntmps40
  go_wp2
  go_ret
  exact ⟨rfl, rfl⟩
set_option maxHeartbeats 400000 in
theorem Open_nil (w : World) : Calls Tryd.prog 32 #[.pointer none] w fun e w' => e = .returned (.tuple #[.pointer none, .int .i64 2]) ∧ w' = w := by
  go_enter Tryd.func32, Tryd.ntmps32
  go_wp2
  go_ret2
  exact ⟨rfl, rfl⟩
theorem Format_off (B db m : Nat) (s : DS) (w : World) (h : DInv B db m s w) (ho : s.off = true) : Calls Tryd.prog 40 #[.pointer (some ⟨db, 0, none⟩)] w fun e w' => e = .returned (.int .i64 6) ∧ w' = w := by
  have CO := on_any B db m s w h
  rw [ho] at CO
  have CO := Lib.hid CO
  have hlt := h.lt
  clear h ho
  go_enter Tryd.func40, Tryd.ntmps40
  go_wp2_with (go_at_call 43; refine CO.out.mono ?_; rintro e w1 ⟨rfl, rfl⟩)
  go_ret
  exact ⟨rfl, rfl⟩
theorem Open_off (B db m : Nat) (s : DS) (w : World) (h : DInv B db m s w) (ho : s.off = true) : Calls Tryd.prog 32 #[.pointer (some ⟨db, 0, none⟩)] w fun e w' => e = .returned (.tuple #[.pointer none, .int .i64 6]) ∧ w' = w := by
  have CO := on_any B db m s w h
  rw [ho] at CO
  have CO := Lib.hid CO
  have hlt := h.lt
  clear h ho
  go_enter Tryd.func32, Tryd.ntmps32
  go_wp2_with (go_at_call 43; refine CO.out.mono ?_; rintro e w1 ⟨rfl, rfl⟩)
  go_ret2
  exact ⟨rfl, rfl⟩
/-- Format of a disk without files -/
theorem Format_new (B db m : Nat) (s : DS) (k : Nat) (w : World) (h : DT B db m s w) (hO : Okk s k) (hk : k ≤ 900000) (ho : s.off = false) (hf : s.keys = []) :
    Calls Tryd.prog 40 #[.pointer (some ⟨db, 0, none⟩)] w fun e w' => e = .returned (.int .i64 (layE s 1 ⟨#[]⟩)) ∧ DStep B db m w (layS' s 1 ⟨#[]⟩) w' := by
  have CO := on_any B db m s w h.d
  rw [ho] at CO
  have CO := Lib.hid CO
  have hlt := h.d.lt
  have CL := list_any B db m s w h.d hO.nd hO.rng (Nat.le_trans hO.len (by decide))
  rw [hf] at CL
  have CL := Lib.hid CL
  have HT := Lib.hid h
  have HO := Lib.hid hO
  clear h ho hO hf
  go_enter Tryd.func40, Tryd.ntmps40
  go_upto_block 0 with (first | (go_at_call 43; refine CO.out.mono ?_; rintro e w1 ⟨rfl, rfl⟩) | (go_at_call 52; refine CL.out.mono ?_; rintro e w1 ⟨lv, rfl, hown, hb1⟩; obtain ⟨LA, lc, rfl⟩ := owns_shape hown; clear hown))
  have HB1 := Lib.hid hb1
  have CY := Lib.hid (lay_any B db m s k 1 ⟨#[]⟩ w1 (HT.out.low hb1) HO.out hk ⟨by decide, by decide⟩ (by decide))
  clear hb1
  go_wp2_with (fail)
  go_loopw [14] (fun i wr => i = .int .i64 0 ∧ wr = w1) (fun _ _ => 0)
  case atStart => exact ⟨rfl, rfl⟩
  case round =>
    obtain ⟨rfl, rfl⟩ := hrel
    go_wp2_with (go_at_call 60; refine CY.out.mono ?_; rintro e w2 ⟨rfl, hs2⟩)
    go_ret
    exact ⟨rfl, DStep.from' (Fr.of_below HB1.out) hs2⟩
end Go.Proofs.YtdmjbdecemajpaaDoor.D
namespace Go.Proofs.YtdmjbdecemajpaaDoor.D
set_option linter.unusedVariables false
set_option linter.unusedSimpArgs false
open Go.RowKit
set_option maxRecDepth 100000 in
set_option maxHeartbeats 400000 in
theorem scan_own (s : ByteArray) (hs : s.size ≤ 100000) (w : World) (hT : Hid (TabOf w)) :
    Calls Tryd.prog 24 #[.string s] w fun e w' => ∃ v, e = .returned (.tuple #[v, .int .i64 (scan s).2]) ∧ w'.ownsRow w.heap.size 9 1 v (scan s).1.length (strs (scan s).1) ∧ Below w.heap.size w w' := by
  go_enter Tryd.func24, Tryd.ntmps24
  go_wp2
  go_loopw [4, 5] (fun v i wr => ∃ (ls : List ByteArray) (k : Nat), i = .int .i64 k ∧ wr.ownsRow w.heap.size 9 1 v ls.length (strs ls) ∧ Below w.heap.size w wr ∧ Hid (Scanned s ls k)) (fun _ i _ => s.size - (intOf i).toNat)
  case atStart => exact ⟨[], 0, rfl, G.owns_nil _ _ _ _, Below.refl _ _, Lib.hid (Scanned.start s)⟩
  case round =>
    obtain ⟨ls, k, rfl, hown, hb, H⟩ := hrel
    obtain ⟨hk, hlk, _⟩ := H.out
    have hT1 : Hid (TabOf wr) := Lib.hid (TabOf.below hT.out hb)
    have hz : (s.extract k s.size).size ≤ 140737488351232 := by rw [ex_size] <;> omega
    by_cases ho : fOk (fromAt s k) = true
    · have c := fun W hT => first_yes (fromAt s k) (by unfold fromAt; exact hz) W hT ho
      have hfit := fOk_fits ho
      have hbs := fBody_size ho
      have hnext := H.out.next ho
      rw [fromAt_size s k hk] at hfit
      obtain ⟨b, hbb⟩ : ∃ b, b = fBody (fromAt s k) := ⟨_, rfl⟩
      rw [← hbb] at c hbs hnext
      obtain ⟨q, hq⟩ : ∃ q, q = k + 8 + fN (fromAt s k) := ⟨_, rfl⟩
      have hbz : b.size ≤ 140737488351232 := by omega
      have hbq : (b.size : Int) = q - k - 8 := by omega
      have hqs : q ≤ s.size := by omega
      have hkq : k + 8 ≤ q := by omega
      rw [← hq] at hnext
      unfold fromAt at c
      have C := Lib.hid c
      have Hnext := Lib.hid hnext
      have Hbq := Lib.hid hbq
      have hqb : (b.size : Int) + 8 + k ≤ 100000 := by omega
      clear c hnext hbq ho hfit hbs hbb hq
      have hlb : Hid (w.heap.size ≤ wr.heap.size) := Lib.hid hb.size
      have hl63 : ls.length + 1 ≤ maxLen := by unfold maxLen; omega
      have hl16 : (ls.length + 1) * 16 ≤ 140737488355328 := by omega
      go_wp2_with (first
        | (go_at_call 47; refine Calls.mono (C.out _ hT1) ?_; rintro e w1 ⟨rfl, hb1⟩)
        | (at_builtin; refine G.app_one rfl _ _ 41 9 rfl w.heap.size 1 16 _ Tryd.underlying41 info9 rfl (by decide) _ _ _ _ rfl rfl rfl (one_str _) (G.owns_below hown hb1) (Nat.le_trans hlb.out hb1.size) hl63 hl16 ?_; intro v1 w2 hown2 hg2)
        | (go_at_call 21; refine (size_any _ hbz _).mono ?_; rintro e w3 ⟨rfl, rfl⟩))
      go_roundw
      case rel =>
        refine ⟨ls ++ [b], q, ?_, ?_, ?_, Hnext⟩
        · have := Hbq.out
          exact congrArg (Value.int .i64) (by omega)
        · rw [strs_append, List.length_append]; exact hown2
        · exact G.below_grown (G.bthen' hb hlb.out hb1) (Nat.le_trans hlb.out hb1.size) (G.owns_below hown hb1) hg2
      case measure => have := Hbq.out; simp [intOf]; omega
    · have hno : fOk (fromAt s k) = false := by simpa using ho
      have c := fun W hT => first_no (fromAt s k) (by unfold fromAt; exact hz) W hT hno
      unfold fromAt at c
      have C := Lib.hid c
      clear c ho
      have hfin := H.out.stop hno
      have Hfin := Lib.hid hfin
      clear hfin hno
      go_wp2_with (go_at_call 47; refine Calls.mono (C.out _ hT1) ?_; rintro e w1 ⟨b, rfl, hb1⟩)
      go_ret2
      refine ⟨u4, ?_, ?_, ?_⟩
      · rw [Hfin.out]; rfl
      · rw [Hfin.out]; exact G.owns_below hown hb1
      · exact G.bthen' hb hb.size hb1
theorem app_own {P : Program} {ops : Array Oper} {rest : List Oper} {o : Oper} {a : Act} {Q : Exit → Act → World → Prop} {w : World} (hgd : o.guard = none) (s x : Operand) (t e : TypeId)
    (ho : o.op = .call { callee := .builtin .append, args := #[s, x], argTypes := #[t, t] })
    (base b2 size bytes : Nat) (z : Value) (ht : P.underlying t = some (.slice e)) (hinfo : (P.info? e).map (fun i => (i.zero, i.size, i.bytes)) = some (some z, size, bytes)) (hzs : z.cells.size = size) (hsz : 0 < size)
    (v : Value) (n : Nat) (xs : List Value) (hs : a.eval s = v) (HO : w.ownsRow base e size v n xs)
    (X : Value) (m : Nat) (news : List Value) (hx : a.eval x = X) (HX : w.ownsRow b2 e size X m news) (h1 : ∀ u ∈ news, u.oneCell' = true)
    (h63 : n + m ≤ maxLen) (hbytes : (n + m) * bytes ≤ 140737488355328) (hbase : base ≤ w.heap.size)
    (h : ∀ v' w', w'.ownsRow base e size v' (n + m) (xs ++ news) → w.grownBy w' v.ownBlock → (v'.ownBlock = v.ownBlock ∨ v'.ownBlock = some w.heap.size) → wpList P ops Q rest (a.put o.dst v') w') : wpList P ops Q (o :: rest) a w := by
  obtain ⟨i0, hi, hzz⟩ := Option.map_eq_some_iff.1 hinfo
  simp only [Prod.mk.injEq] at hzz
  obtain ⟨hz0, hz1, hz2⟩ := hzz
  have hh := G.HasRow.of_owns HX
  obtain ⟨hl, ⟨rfl, hn⟩ | ⟨g, cap, cur, rfl, hb, hg, _⟩⟩ := HX
  · subst hn
    obtain rfl : news = [] := by simpa using hl
    refine wpList_plain hgd fun K hK => ?_
    have hr := run_append_owned_none (P := P) w base t o.type e i0 size ht hi v n xs HO
    unfold Oper.wp execOp
    simp only [ho, resolve, invoke, builtin, Sem.run_bind, Sem.run_pure, Result.andThen_ok, List.map_toArray, List.map_cons, List.map_nil, hs, hx, hr]
    exact hK _ _ (h v w (by simpa using HO) ⟨rfl, rfl, rfl, Nat.le_refl _, fun _ _ _ => rfl⟩ (.inl rfl))
  · obtain ⟨_, A, c, hv, _, _, hc⟩ := hh
    cases hv
    exact wpList_append_own_at w hgd s x t ho base e i0 z size bytes ht hi hz0 hz1 hz2 hzs hsz v n xs hs HO ⟨g, 0, none⟩ m cap news hx hl (fun j u hj => by
      obtain ⟨ad, ha, hcell⟩ := hc j u hj
      cases ha; exact hcell) h1 h63 hbytes hbase (fun v' w' k1 k2 _ k4 => h v' w' k1 k2 k4)
theorem strs_one (l : List ByteArray) : ∀ u ∈ strs l, u.oneCell' = true := by
  intro u hu
  obtain ⟨b, _, rfl⟩ := List.mem_map.1 hu
  rfl
/-- the row of records is another one, its cell stored -/
theorem WInv.setrow {B db m lb : Nat} {s : DS} {L : LS} {v : Value} {w w1 : World} (h : WInv B db m lb s L v w) (x : Value) (l : List ByteArray) (n : Nat) (hn : n = l.length) (hg : w.grownBy w1 v.ownBlock) (ho : w1.ownsRow B 9 1 x n (strs l)) (hx : x.ownBlock = v.ownBlock ∨ x.ownBlock = some w.heap.size) :
    WStep B db m lb v w s { L with recs := l } (w1.setCell ⟨lb, 3, none⟩ x) := by
  subst hn
  have kg : ∀ j, j < w.heap.size → v.ownBlock ≠ some j → w1.heap[j]? = w.heap[j]? := fun j hj hne => hg.block j hj (fun e => hne e.symm)
  have kp : ∀ j, j ≠ lb → (w1.setCell ⟨lb, 3, none⟩ x).heap[j]? = w1.heap[j]? := fun j hj => Below.heap_setCell _ _ _ _ hj
  have kb : ∀ j, j < w.heap.size → ¬ LFoot lb v j → (w1.setCell ⟨lb, 3, none⟩ x).heap[j]? = w.heap[j]? := fun j hj hne => (kp j (fun e => hne (.inl e))).trans (kg j hj (fun e => hne (.inr e)))
  have hlb : w1.heap[lb]? = some (.cells (lcells db L v) 85 (0, 0)) := (kg lb h.l.lt h.l.off).trans h.l.cells
  have hxl : x.ownBlock ≠ some lb := fun e => by
    rcases hx with e1 | e1
    · exact h.l.off (e1 ▸ e)
    · rw [e1] at e; cases e; exact absurd h.l.lt (Nat.lt_irrefl _)
  have hf : Fr (WFoot db m lb v) w (w1.setCell ⟨lb, 3, none⟩ x) := ⟨hg.os, hg.tape, hg.output, by have := hg.size; simpa [World.setCell] using this, fun j hj hn => kb j hj (fun e => hn (.inr e))⟩
  refine ⟨x, ⟨⟨h.t.d.keep fun j hj => kb j (h.t.d.foot_lt hj) (fun e => h.apart e hj), tab_fr h.t.tab hf (fun h0 => by have := h.foot_B h0; have := h.t.pos; omega), h.t.pos⟩, ?_, h.l.hB, ?_⟩, fun j hj => ?_, hf⟩
  · rw [heap_setCell_same _ _ _ _ _ _ hlb]; rfl
  · exact owns_kept ho fun j hj => kp j (fun e => hxl (e ▸ hj))
  · rcases hj with hj | rfl | hj
    · exact .inl (.inl hj)
    · exact .inl (.inr (.inl rfl))
    · rcases hx with e1 | e1
      · exact .inl (.inr (.inr (e1 ▸ hj)))
      · rw [e1] at hj; cases hj; exact .inr (Nat.le_refl _)
/-- the newest generation that is whole, among files -/
def newP (s : DS) : List Int → Option (Int × ByteArray)
  | [] => none
  | no :: l => if no % 100 ≠ 0 ∨ 999900 < no then newP s l else if whole (s.fl no).data = true then some (no / 100, fBody (s.fl no).data) else newP s l
def newR : Option (Int × ByteArray) → Value
  | none => .tuple #[.int .i64 0, .string ⟨#[]⟩, .bool false]
  | some p => .tuple #[.int .i64 p.1, .string p.2, .bool true]
set_option maxRecDepth 100000 in
set_option maxHeartbeats 4000000 in
theorem newest_any (B db m : Nat) (s : DS) (k : Nat) (w : World) (h : DT B db m s w) (hO : Okk s k) (hoff : s.off = false) :
    Calls Tryd.prog 50 #[.pointer (some ⟨db, 0, none⟩)] w fun e w' => e = .returned (newR (newP s s.keys.reverse)) ∧ Below w.heap.size w w' := by
  obtain ⟨n, hn⟩ : ∃ n, n = s.keys.length := ⟨_, rfl⟩
  have hL := list_any B db m s w h.d hO.nd hO.rng (Nat.le_trans hO.len (by decide))
  rw [← hn] at hL
  have HL := Lib.hid hL
  have HT := Lib.hid h
  have HO := Lib.hid hO
  have HOff := Lib.hid hoff
  have hn1 : n ≤ 1000 := by
    rw [hn]
    show ((s.files.map (·.1)).mergeSort leI).length ≤ _
    rw [List.length_mergeSort, List.length_map]; exact Nat.le_trans hO.len (by decide)
  have HN := Lib.hid hn
  clear hL h hO hoff hn
  go_enter Tryd.func50, Tryd.ntmps50
  go_upto_block 0 with (go_at_call 52; refine HL.out.mono ?_; rintro e w1 ⟨lv, rfl, hown, hb1⟩; obtain ⟨LA, lc, rfl⟩ := owns_shape hown)
  have HB1 := Lib.hid hb1
  have HOwn := Lib.hid hown
  clear hb1 hown
  go_wp2_with (fail)
  go_loopw [16] (fun i wr => ∃ k : Nat, k ≤ n ∧ i = .int .i64 k ∧ Hid (Below w1.heap.size w1 wr) ∧ Hid (newP s s.keys.reverse = newP s (s.keys.take (n - k)).reverse)) (fun i _ => n - (intOf i).toNat)
  case atStart => exact ⟨0, by omega, by go_num, Lib.hid (Below.refl _ _), Lib.hid (by rw [Nat.sub_zero, HN.out, List.take_length])⟩
  case round =>
    obtain ⟨j, hj, rfl, HB, HP⟩ := hrel
    by_cases hjn : j < n
    · have hjk : n - 1 - j < s.keys.length := by have := HN.out; omega
      obtain ⟨no, hno⟩ : ∃ no, no = s.keys[n - 1 - j] := ⟨_, rfl⟩
      have hmem : no ∈ s.keys := by rw [hno]; exact List.getElem_mem hjk
      have hsome := (keys_mem no).1 hmem
      have hpos : 1 ≤ no ∧ no ≤ 1000000 := by
        obtain ⟨f, hf⟩ := Option.isSome_iff_exists.1 hsome
        exact HO.out.rng _ (get_mem hf)
      have hfl := fl_ok HO.out.fl no
      rw [show (M.get s.files no).getD fl0 = s.fl no from rfl] at hfl
      have hnext : newP s (s.keys.take (n - j)).reverse = newP s (no :: (s.keys.take (n - (j + 1))).reverse) := by
        rw [show n - j = (n - 1 - j) + 1 by omega, List.take_succ_eq_append_getElem hjk, List.reverse_append, ← hno, show n - (j + 1) = n - 1 - j by omega]
        rfl
      obtain ⟨_, _, _, hvl, _, _, hcl⟩ := G.HasRow.of_owns HOwn.out
      cases hvl
      obtain ⟨lad, hla, e0⟩ := hcl (n - 1 - j) (kv no) (by rw [List.getElem?_map, List.getElem?_eq_getElem hjk, hno]; rfl)
      subst hla
      have e0 := G.cell_below HB.out e0
      replace e0 : wr.cell? (lad.add (n - 1 - j)) = some (.int .i64 no) := e0
      have hcr := read_any B db m s no wr ((HT.out.low HB1.out).low HB.out).d
      rw [show readT s no = (s.fl no).data by rw [readT, HOff.out]; rfl] at hcr
      obtain ⟨b, hb⟩ : ∃ b, readB s no = b := ⟨_, rfl⟩
      rw [hb] at hcr
      have HTb := Lib.hid ((HT.out.low HB1.out).low HB.out)
      obtain ⟨T, hT⟩ : ∃ T, (s.fl no).data = T := ⟨_, rfl⟩
      rw [newP, hT] at hnext
      rw [hT] at hcr hfl
      have hTs : T.size ≤ 140737488351232 := by omega
      have HCR := Lib.hid hcr
      have hidx : ((n : Int) - 1 - j).toNat = n - 1 - j := by omega
      have hq1 : no.tmod 100 = no % 100 := Int.tmod_eq_emod_of_nonneg (by omega)
      have hq2 : no.tdiv 100 = no / 100 := Int.tdiv_eq_ediv_of_nonneg (by omega)
      have hstep : Hid (newP s s.keys.reverse = _) := Lib.hid (HP.out.trans hnext)
      have hsub : ∃ q : Nat, (n : Int) - 1 - j = q ∧ q = n - 1 - j := ⟨n - 1 - j, by omega, rfl⟩
      obtain ⟨q, hq3, hq4⟩ := hsub
      rw [← hq4] at e0
      have HQ4 := Lib.hid hq4
      clear hcr hcl hno hmem hsome hnext hb hT hidx hq4 hjk
      go_upto_region 7 with (go_at_call 63; refine HCR.out.mono ?_; rintro e w5 ⟨rfl, hb5⟩)
      have HB5 := Lib.hid (G.bthen HB.out hb5)
      have HT5 := Lib.hid (HTb.out.low hb5)
      clear hb5 e0
      by_cases hz : no % 100 = 0
      · by_cases hz2 : 999900 < no
        · have hs2 := hstep.out
          rw [if_pos (.inr hz2)] at hs2
          have HS2 := Lib.hid hs2
          have hz' : no.tmod 100 = 0 := by omega
          clear hs2 hstep hq1 hq2 hz
          go_wp2_with (go_at_call 53; refine (begin_any _ (by decide) _).mono ?_; rintro e w6 ⟨rfl, rfl⟩)
          go_roundw
          case rel => exact ⟨j + 1, by omega, by go_num, HB5, HS2⟩
          case measure => simp [intOf]; omega
        · have hs2 := hstep.out
          rw [if_neg (by omega)] at hs2
          have hz' : no.tmod 100 = 0 := by omega
          by_cases hw : whole T = true
          · rw [if_pos hw] at hs2
            have HS2 := Lib.hid hs2
            have CW := Lib.hid (fun W hW => whole_yes T hTs W hW hw)
            clear hs2 hstep hq1 hz hw
            go_wp2_with (first | (go_at_call 53; refine (begin_any _ (by decide) _).mono ?_; rintro e w6 ⟨rfl, rfl⟩) | (go_at_call 22; refine Calls.mono (CW.out _ (Lib.hid HT5.out.tab)) ?_; rintro e w6 ⟨rfl, hb6⟩))
            go_ret3
            rw [HS2.out]
            exact ⟨rfl, G.bthen (G.bthen HB1.out HB5.out) hb6⟩
          · rw [if_neg hw] at hs2
            have HS2 := Lib.hid hs2
            have CW := Lib.hid (fun W hW => whole_no T hTs W hW (by simpa using hw))
            clear hs2 hstep hq1 hq2 hz hw
            go_wp2_with (first | (go_at_call 53; refine (begin_any _ (by decide) _).mono ?_; rintro e w6 ⟨rfl, rfl⟩) | (go_at_call 22; refine Calls.mono (CW.out _ (Lib.hid HT5.out.tab)) ?_; rintro e w6 ⟨rfl, hb6⟩))
            go_roundw
            case rel => exact ⟨j + 1, by omega, by go_num, Lib.hid (G.bthen HB5.out hb6), HS2⟩
            case measure => simp [intOf]; omega
      · have hs2 := hstep.out
        rw [if_pos (.inl hz)] at hs2
        have HS2 := Lib.hid hs2
        have hz' : ¬ no.tmod 100 = 0 := by omega
        have hz'' : (no.tmod 100 != 0) = true := by simpa using hz'
        have hz3 : (no % 100 != 0) = true := by simpa using hz
        clear hs2 hstep hq1 hq2
        go_wp2_with (go_at_call 53; refine (begin_any _ (by decide) _).mono ?_; rintro e w6 ⟨rfl, rfl⟩)
        go_roundw
        case rel => exact ⟨j + 1, by omega, by go_num, HB5, HS2⟩
        case measure => simp [intOf]; omega
    · have : j = n := by omega
      subst this
      have hs2 := HP.out
      rw [Nat.sub_self] at hs2
      have HS2 := Lib.hid hs2
      clear hs2
      go_wp2
      go_ret3
      rw [HS2.out]
      exact ⟨rfl, G.bthen HB1.out HB.out⟩
end Go.Proofs.YtdmjbdecemajpaaDoor.D
namespace Go.Proofs.YtdmjbdecemajpaaDoor.D
set_option linter.unusedVariables false
set_option linter.unusedSimpArgs false
open Go.RowKit
theorem sees2 {w4 W w' : World} {a b : Addr} {x y : Value} (h : Below w4.heap.size w4 W ∧ W.cell? a = some x ∧ W.cell? b = some y) (hb : Below W.heap.size W w') : Below w4.heap.size w4 w' ∧ w'.cell? a = some x ∧ w'.cell? b = some y :=
  ⟨G.bthen h.1 hb, G.cell_below hb h.2.1, G.cell_below hb h.2.2⟩
theorem hold2 {p : Prop} {w4 W : World} {a b : Addr} {x y : Value} (h : Below w4.heap.size w4 W ∧ W.cell? a = some x ∧ W.cell? b = some y) (k : Hid (Below w4.heap.size w4 W) → p) : p := k (Lib.hid h.1)
/-- what a row of calls has left of the first world -/
structure WF (db m lb : Nat) (v : Value) (w : World) (v1 : Value) (w1 : World) : Prop where
  foot : ∀ j, WFoot db m lb v1 j → WFoot db m lb v j ∨ w.heap.size ≤ j
  fr : Fr (WFoot db m lb v) w w1
theorem WF.low {db m lb : Nat} {v v1 : Value} {w w1 w2 : World} (h : WF db m lb v w v1 w1) (hb : Below w1.heap.size w1 w2) : WF db m lb v w v1 w2 :=
  ⟨h.foot, h.fr.trans (Fr.of_below (F := WFoot db m lb v1) hb) h.foot⟩
theorem WF.cat {B db m lb : Nat} {v v1 : Value} {w w1 w2 : World} {s2 : DS} {L2 : LS} (h : WF db m lb v w v1 w1) (k : WStep B db m lb v1 w1 s2 L2 w2) : WStep B db m lb v w s2 L2 w2 := by
  obtain ⟨v2, k1, k2, k3⟩ := k
  refine ⟨v2, k1, fun j hj => ?_, h.fr.trans k3 h.foot⟩
  rcases k2 j hj with h4 | h4
  · exact h.foot j h4
  · exact .inr (Nat.le_trans h.fr.size h4)
theorem WInv.grown {B db m lb : Nat} {s : DS} {L : LS} {v : Value} {w w1 : World} (h : WInv B db m lb s L v w) (hg : w.grownBy w1 v.ownBlock) : (∀ i, w1.cell? ⟨lb, i, none⟩ = w.cell? ⟨lb, i, none⟩) ∧ (∀ i, w1.frozen? ⟨lb, i, none⟩ = false) ∧ lb < w1.heap.size := by
  have hh : w1.heap[lb]? = w.heap[lb]? := hg.block lb h.l.lt (fun e => h.l.off e.symm)
  refine ⟨fun i => by simp [World.cell?, hh], fun i => by simp [World.frozen?, hh, h.l.cells], Nat.lt_of_lt_of_le h.l.lt hg.size⟩
structure Sg where
  recs : List ByteArray
  last : Int
  good : Int
/-- a generation's segments from k on -/
def segP (s : DS) (g : Int) : Nat → Int → Sg → Sg
  | 0, _, x => x
  | n + 1, k, x => if (M.get s.files (g * 100 + k)).isSome = true then
      (if (scan (s.fl (g * 100 + k)).data).2 < (s.fl (g * 100 + k)).data.size then ⟨x.recs ++ (scan (s.fl (g * 100 + k)).data).1, k, (scan (s.fl (g * 100 + k)).data).2⟩
        else segP s g n (k + 1) ⟨x.recs ++ (scan (s.fl (g * 100 + k)).data).1, k, (scan (s.fl (g * 100 + k)).data).2⟩)
    else x
/-- what stands at the head of a round -/
structure SgI (B db m lb : Nat) (s : DS) (L : LS) (v : Value) (w : World) (R : Sg) (j : Nat) (x : Sg) (wr : World) : Prop where
  st : WStep B db m lb v w s { L with recs := x.recs, last := x.last } wr
  len : x.recs.length ≤ L.recs.length + 12500 * j
  goes : R = segP s L.gen (99 - j) (j + 1) x
set_option maxRecDepth 100000 in
set_option maxHeartbeats 4000000 in
theorem segments_any (B db m lb : Nat) (s : DS) (L : LS) (v : Value) (k : Nat) (w : World) (h : WInv B db m lb s L v w) (hO : Okk s k) (hoff : s.off = false) (hS : ∀ no, (s.fl no).data.size ≤ 100000) (hg : 0 ≤ L.gen ∧ L.gen ≤ 100000) (hr : L.recs.length ≤ 1000000) :
    Calls Tryd.prog 51 #[.pointer (some ⟨lb, 0, none⟩)] w fun e w' => e = .returned (.int .i64 (segP s L.gen 99 1 ⟨L.recs, L.last, 0⟩).good) ∧
      WStep B db m lb v w s { L with recs := (segP s L.gen 99 1 ⟨L.recs, L.last, 0⟩).recs, last := (segP s L.gen 99 1 ⟨L.recs, L.last, 0⟩).last } w' := by
  obtain ⟨R, hR⟩ : ∃ R, segP s L.gen 99 1 ⟨L.recs, L.last, 0⟩ = R := ⟨_, rfl⟩
  rw [hR]
  have HOff := Lib.hid hoff
  have HS := Lib.hid hS
  have HP0 : Hid (SgI B db m lb s L v w R 0 ⟨L.recs, L.last, 0⟩ w) := Lib.hid ⟨WStep.same h (Below.refl _ _), by show L.recs.length ≤ _; omega, hR.symm⟩
  have HR := Lib.hid hr
  clear h hO hoff hS hr hR
  go_enter Tryd.func51, Tryd.ntmps51
  go_wp2_with (fail)
  go_loopw [3, 4] (fun g i wr => ∃ (j : Nat) (x : Sg), j ≤ 99 ∧ i = .int .i64 (j + 1) ∧ g = .int .i64 x.good ∧ Hid (SgI B db m lb s L v w R j x wr)) (fun _ i _ => 100 - (intOf i).toNat)
  case atStart => exact ⟨0, ⟨L.recs, L.last, 0⟩, by omega, rfl, rfl, HP0⟩
  case round =>
    obtain ⟨j, x, hj, rfl, rfl, HK⟩ := hrel
    by_cases hj9 : j < 99
    · obtain ⟨⟨v1, hw, hfoot, hfr⟩, hlen, hto⟩ := HK.out
      have hto' : R = segP s L.gen ((98 - j) + 1) (j + 1) x := by rw [hto]; congr 1; omega
      rw [segP] at hto'
      obtain ⟨no, hno⟩ : ∃ no, no = L.gen * 100 + ((j : Int) + 1) := ⟨_, rfl⟩
      rw [← hno] at hto'
      have hcs := hw.l.cs
      have c0 := hcs.1
      have c1 := hcs.2.1
      have hlt := hw.l.lt
      have HW1 := Lib.hid hw
      have HF : Hid (WF db m lb v w v1 wr) := Lib.hid ⟨hfoot, hfr⟩
      have HSt : Hid (WStep B db m lb v w s { L with recs := x.recs, last := x.last } wr) := Lib.hid ⟨v1, hw, hfoot, hfr⟩
      have hx9 : ((j : Int) + 1) ≤ 99 := by omega
      have HTo := Lib.hid hto'
      have HLen := Lib.hid hlen
      clear hcs hw hfoot hfr hlen hto hto'
      have hcr : ∀ V, Below wr.heap.size wr V → Calls Tryd.prog 63 #[.pointer (some ⟨db, 0, none⟩), .int .i64 (L.gen * 100 + ((j : Int) + 1))] V fun e w' => e = .returned (.tuple #[.string (s.fl no).data, .bool (M.get s.files no).isSome]) ∧ Below V.heap.size V w' := fun V hV => by
        have := read_any B db m s no V (HW1.out.low hV).t.d
        rw [show readT s no = (s.fl no).data by rw [readT, HOff.out]; rfl, show readB s no = (M.get s.files no).isSome by rw [readB, HOff.out]; rfl] at this
        rw [← hno]; exact this
      have HWR : Hid (IntKind.i64.wrap (L.gen * 100 + ((j : Int) + 1)) = L.gen * 100 + ((j : Int) + 1)) := Lib.hid (by rw [IntKind.wrap_i64]; omega)
      have hds := HS.out no
      replace HTo := HTo.out
      obtain ⟨T, hT⟩ : ∃ T, (s.fl no).data = T := ⟨_, rfl⟩
      rw [hT] at hcr hds HTo
      cases hsome : (M.get s.files no).isSome
      · rw [hsome] at hcr HTo
        rw [if_neg (by decide)] at HTo
        replace HTo := Lib.hid HTo
        have HCR := Lib.hid hcr
        clear hcr hsome hT hno
        go_upto_region 5 with (fail)
        refine wp_region_held_drew (S := fun V => Below wr.heap.size wr V ∧ V.cell? ⟨lb, 0, none⟩ = some (.pointer (some ⟨db, 0, none⟩)) ∧ V.cell? ⟨lb, 1, none⟩ = some (.int .i64 L.gen)) (by kernel_rfl) ⟨G.bdrew (Below.refl _ _), c0, c1⟩ (fun hS0 => ?_)
        refine tk 0 14 (.pointer (some ⟨lb, 0, none⟩)) ?_
        try simp only [s1, s2, s3]
        refine tk 1 15 (.pointer (some ⟨lb, 0, none⟩)) ?_
        try simp only [s1, s2, s3]
        refine tk 2 16 (.pointer (some ⟨lb, 0, none⟩)) ?_
        try simp only [s1, s2, s3]
        refine tk 3 17 (.pointer (some ⟨db, 0, none⟩)) ?_ (hv := by (intro V hV; have c0 := hV.2.1; clear hV; go_simp; try rfl))
        try simp only [s1, s2, s3]
        refine tk 4 18 (.pointer (some ⟨lb, 0, none⟩)) ?_
        try simp only [s1, s2, s3]
        refine tk 5 19 (.pointer (some ⟨lb, 0, none⟩)) ?_
        try simp only [s1, s2, s3]
        refine tk 6 20 (.pointer (some ⟨lb, 1, none⟩)) ?_
        try simp only [s1, s2, s3]
        refine tk 7 21 (.int .i64 L.gen) ?_ (hv := by (intro V hV; have c1 := hV.2.2; clear hV; go_simp; try rfl))
        try simp only [s1, s2, s3]
        refine tk 9 23 (.int .i64 (j + 1)) ?_
        try simp only [s1, s2, s3]
        refine wpAnyH_ready (rs := [8]) (by kernel_rfl) (by simp) ?_
        refine AllReadyH.cons rfl (fun K hK => ?_) ?_
        · rw [if_pos (by rfl)]
          go_simp
          go_at_call 53
          refine (begin_any L.gen hg _).mono ?_
          rintro e w9 ⟨rfl, rfl⟩
          dsimp only
          refine hK.out _ _ ((by assumption)) (fun hHeld => ?_)
          clear hK K
          try simp only [Act.put, s1, s2, s3]
          refine tk 10 24 (.int .i64 (L.gen * 100 + (j + 1))) ?_ (hv := by (intro V hV; clear hV; go_simp; first | exact HWR.out | rw [HWR.out] | (rw [HWR.out]; rfl)))
          try simp only [s1, s2, s3]
          refine wpAnyH_ready (rs := [11]) (by kernel_rfl) (by simp) ?_
          refine AllReadyH.cons rfl (fun K hK => ?_) ?_
          · rw [if_pos (by rfl)]
            go_simp
            go_at_call 63
            refine (HCR.out _ (And.left (by assumption))).mono ?_
            rintro e w2 ⟨rfl, hb2⟩
            dsimp only
            refine hK.out _ _ (sees2 (by assumption) hb2) (fun hHeld => ?_)
            clear hK K
            try simp only [Act.put, s1, s2, s3]
            refine tk 12 13 (.tuple #[.string T, .bool false]) ?_
            try simp only [s1, s2, s3]
            refine tk 13 26 (.string T) ?_
            try simp only [s1, s2, s3]
            refine tk 14 27 (.bool false) ?_
            try simp only [s1, s2, s3]
            refine tk 15 5 (.string T) ?_
            try simp only [s1, s2, s3]
            refine tk 16 6 (.bool false) ?_
            try simp only [s1, s2, s3]
            refine wpAnyH_done (by kernel_rfl) ?_ _
            refine hold2 (by assumption) (fun HB2 => ?_)
            repeat clear hHeld
            clear hS0
            try dsimp only
            go_wp2
            go_ret
            rw [HTo.out]
            exact ⟨rfl, HSt.out.low HB2.out⟩
          exact AllReadyH.nil
        exact AllReadyH.nil
      · rw [hsome] at hcr HTo
        rw [if_pos rfl] at HTo
        have CS := fun W hW => scan_own T hds W hW
        have hsl := scan_le T
        obtain ⟨ls, hls⟩ : ∃ ls, (scan T).1 = ls := ⟨_, rfl⟩
        obtain ⟨z, hz⟩ : ∃ z, (scan T).2 = z := ⟨_, rfl⟩
        rw [hls, hz] at CS hsl HTo
        replace CS := Lib.hid CS
        replace HTo := Lib.hid HTo
        have HCR := Lib.hid hcr
        clear hcr hsome hT hno hls hz
        go_upto_region 5 with (fail)
        refine wp_region_held_drew (S := fun V => Below wr.heap.size wr V ∧ V.cell? ⟨lb, 0, none⟩ = some (.pointer (some ⟨db, 0, none⟩)) ∧ V.cell? ⟨lb, 1, none⟩ = some (.int .i64 L.gen)) (by kernel_rfl) ⟨G.bdrew (Below.refl _ _), c0, c1⟩ (fun hS0 => ?_)
        refine tk 0 14 (.pointer (some ⟨lb, 0, none⟩)) ?_
        try simp only [s1, s2, s3]
        refine tk 1 15 (.pointer (some ⟨lb, 0, none⟩)) ?_
        try simp only [s1, s2, s3]
        refine tk 2 16 (.pointer (some ⟨lb, 0, none⟩)) ?_
        try simp only [s1, s2, s3]
        refine tk 3 17 (.pointer (some ⟨db, 0, none⟩)) ?_ (hv := by (intro V hV; have c0 := hV.2.1; clear hV; go_simp; try rfl))
        try simp only [s1, s2, s3]
        refine tk 4 18 (.pointer (some ⟨lb, 0, none⟩)) ?_
        try simp only [s1, s2, s3]
        refine tk 5 19 (.pointer (some ⟨lb, 0, none⟩)) ?_
        try simp only [s1, s2, s3]
        refine tk 6 20 (.pointer (some ⟨lb, 1, none⟩)) ?_
        try simp only [s1, s2, s3]
        refine tk 7 21 (.int .i64 L.gen) ?_ (hv := by (intro V hV; have c1 := hV.2.2; clear hV; go_simp; try rfl))
        try simp only [s1, s2, s3]
        refine tk 9 23 (.int .i64 (j + 1)) ?_
        try simp only [s1, s2, s3]
        refine wpAnyH_ready (rs := [8]) (by kernel_rfl) (by simp) ?_
        refine AllReadyH.cons rfl (fun K hK => ?_) ?_
        · rw [if_pos (by rfl)]
          go_simp
          go_at_call 53
          refine (begin_any L.gen hg _).mono ?_
          rintro e w9 ⟨rfl, rfl⟩
          dsimp only
          refine hK.out _ _ ((by assumption)) (fun hHeld => ?_)
          clear hK K
          try simp only [Act.put, s1, s2, s3]
          refine tk 10 24 (.int .i64 (L.gen * 100 + (j + 1))) ?_ (hv := by (intro V hV; clear hV; go_simp; first | exact HWR.out | rw [HWR.out] | (rw [HWR.out]; rfl)))
          try simp only [s1, s2, s3]
          refine wpAnyH_ready (rs := [11]) (by kernel_rfl) (by simp) ?_
          refine AllReadyH.cons rfl (fun K hK => ?_) ?_
          · rw [if_pos (by rfl)]
            go_simp
            go_at_call 63
            refine (HCR.out _ (And.left (by assumption))).mono ?_
            rintro e w2 ⟨rfl, hb2⟩
            dsimp only
            refine hK.out _ _ (sees2 (by assumption) hb2) (fun hHeld => ?_)
            clear hK K
            try simp only [Act.put, s1, s2, s3]
            refine tk 12 13 (.tuple #[.string T, .bool true]) ?_
            try simp only [s1, s2, s3]
            refine tk 13 26 (.string T) ?_
            try simp only [s1, s2, s3]
            refine tk 14 27 (.bool true) ?_
            try simp only [s1, s2, s3]
            refine tk 15 5 (.string T) ?_
            try simp only [s1, s2, s3]
            refine tk 16 6 (.bool true) ?_
            try simp only [s1, s2, s3]
            refine wpAnyH_done (by kernel_rfl) ?_ _
            refine hold2 (by assumption) (fun HB2 => ?_)
            repeat clear hHeld
            clear hS0
            try dsimp only
            have HW2 := Lib.hid (HW1.out.low HB2.out)
            go_upto_region 8 with (first
              | (go_at_call 24; refine Calls.mono (CS.out _ (Lib.hid HW2.out.t.tab)) ?_; rintro e w4 ⟨rv, rfl, hown4, hb4⟩))
            have HW4 := Lib.hid (HW2.out.low hb4)
            have HF4 := Lib.hid (HF.out.low (G.bthen HB2.out hb4))
            have HOwn := Lib.hid hown4
            have c3 := HW4.out.l.cs.2.2.2.1
            have hlt := HW4.out.l.lt
            have HB : Hid (B ≤ w4.heap.size) := Lib.hid (Nat.le_trans HW4.out.l.hB (Nat.le_of_lt hlt))
            have hl1 : x.recs.length + ls.length ≤ 3000000 := by have := HLen.out; have := HR.out; omega
            clear hb4 hown4
            go_upto_region 9 with (at_builtin; refine app_own rfl _ _ 41 9 rfl B w2.heap.size 1 16 _ Tryd.underlying41 info9 rfl (by decide) v1 x.recs.length (strs x.recs) rfl HW4.out.l.row rv ls.length (strs ls) rfl HOwn.out (strs_one ls) (by unfold maxLen; omega) (by omega) HB.out ?_; intro v5 w5 hown5 hg5 hat5; obtain ⟨A5, c5, rfl⟩ := owns_shape hown5; have hst5 := HW4.out.setrow _ (x.recs ++ ls) (x.recs.length + ls.length) (by simp) hg5 (by rw [strs_append]; exact hown5) hat5; have hgr := HW4.out.grown hg5; have c3 := (hgr.1 3).trans c3; have f3 := hgr.2.1 3; have hlt := hgr.2.2; have HSt5 := Lib.hid hst5; clear hown5 hg5 hat5 hst5 hgr)
            have hst5 := HF4.out.cat HSt5.out
            generalize w5.setCell ⟨lb, 3, none⟩ (.slice A5 (x.recs.length + ls.length) c5) = w6 at *
            obtain ⟨v6, hw6, hfoot6, hfr6⟩ := hst5
            have c4 := hw6.l.cs.2.2.2.2.1
            have f4 := hw6.l.free 4
            have hlt6 := hw6.l.lt
            have HF6 : Hid (WF db m lb v w v6 w6) := Lib.hid ⟨hfoot6, hfr6⟩
            have hst7 := hw6.seti (L' := { L with recs := x.recs ++ ls, last := (j : Int) + 1 }) 4 (.int .i64 ((j : Int) + 1)) rfl rfl
            have HSt7 := Lib.hid (HF6.out.cat hst7)
            clear c3 f3 hlt hw6 hfoot6 hfr6 hst7
            by_cases hzT : z < T.size
            · replace HTo := HTo.out
              rw [if_pos hzT] at HTo
              replace HTo := Lib.hid HTo
              go_wp2
              go_ret
              rw [HTo.out]
              exact ⟨rfl, HSt7.out⟩
            · replace HTo := HTo.out
              rw [if_neg hzT] at HTo
              replace HTo := Lib.hid HTo
              go_wp2
              go_roundw
              case rel =>
                refine ⟨j + 1, ⟨x.recs ++ ls, (j : Int) + 1, z⟩, by omega, by go_num, rfl, Lib.hid ⟨HSt7.out, ?_, ?_⟩⟩
                · have := HLen.out
                  show (x.recs ++ ls).length ≤ _
                  rw [List.length_append]; omega
                · rw [HTo.out]
                  congr 1
                  omega
              case measure => simp [intOf]; omega
          exact AllReadyH.nil
        exact AllReadyH.nil
    · have : j = 99 := by omega
      subst this
      have hto := HK.out.goes
      have HSt := Lib.hid HK.out.st
      have HTo := Lib.hid hto
      clear hto
      go_wp2
      go_ret
      rw [HTo.out]
      exact ⟨rfl, HSt.out⟩
/-- the last segment is just its frames, and safe -/
def tidE (s : DS) (no good : Int) : Int := if good < (s.fl no).data.size then (if triE s no good ≠ 0 then triE s no good else synE (triS s no good) no) else synE s no
def tidS (s : DS) (no good : Int) : DS := if good < (s.fl no).data.size then (if triE s no good ≠ 0 then triS s no good else synS (triS s no good) no) else synS s no
set_option maxRecDepth 100000 in
set_option maxHeartbeats 4000000 in
theorem tidy_any (B db m lb : Nat) (s : DS) (L : LS) (v : Value) (k : Nat) (good : Int) (w : World) (h : WInv B db m lb s L v w) (hO : Okk s k) (hk : k ≤ 900000) (hoff : s.off = false) (hg : 0 ≤ L.gen ∧ L.gen ≤ 100000) (hl : 0 ≤ L.last ∧ L.last ≤ 1000) :
    Calls Tryd.prog 55 #[.pointer (some ⟨lb, 0, none⟩), .int .i64 good] w fun e w' => e = .returned (.int .i64 (tidE s (L.gen * 100 + L.last) good)) ∧ WStep B db m lb v w (tidS s (L.gen * 100 + L.last) good) L w' := by
  obtain ⟨no, hno⟩ : ∃ no, no = L.gen * 100 + L.last := ⟨_, rfl⟩
  have HW := Lib.hid h
  have HO := Lib.hid hO
  have hcs := h.l.cs
  have c0 := hcs.1
  have c1 := hcs.2.1
  have c4 := hcs.2.2.2.2.1
  have hlt := h.l.lt
  have HOff := Lib.hid hoff
  obtain ⟨T, hT⟩ : ∃ T, (s.fl no).data = T := ⟨_, rfl⟩
  have hTs := (fl_ok hO.fl no).2
  rw [show (M.get s.files no).getD fl0 = s.fl no from rfl, hT] at hTs
  have HPost : Hid (tidE s no good = (if good < T.size then (if triE s no good ≠ 0 then triE s no good else synE (triS s no good) no) else synE s no) ∧ tidS s no good = (if good < T.size then (if triE s no good ≠ 0 then triS s no good else synS (triS s no good) no) else synS s no)) := Lib.hid ⟨by rw [tidE, hT], by rw [tidS, hT]⟩
  have HT := Lib.hid hT
  rw [← hno]
  clear h hO hcs hoff hT
  go_enter Tryd.func55, Tryd.ntmps55
  go_upto_region 1 with (fail)
  go_quiet ((go_at_call 53; exact Calls.quiet_of_same (begin_any L.gen hg _)))
  rw [← hno]
  generalize hw1 : w.drewN nq = w1
  have hb1 : Below w.heap.size w w1 := by rw [← hw1]; exact G.bdrewN (Below.refl _ _) nq
  have HW1 := Lib.hid (HW.out.low hb1)
  have HB1 := Lib.hid hb1
  clear hw1 hb1 c0 c1 c4 hno hlt hg hl
  have c0 := HW1.out.l.cs.1
  have hlt := HW1.out.l.lt
  have hcr := read_any B db m s no w1 HW1.out.t.d
  rw [show readT s no = T by rw [readT, HOff.out, ← HT.out]; rfl] at hcr
  obtain ⟨b, hb⟩ : ∃ b, readB s no = b := ⟨_, rfl⟩
  rw [hb] at hcr
  have HCR := Lib.hid hcr
  clear hcr hb
  go_upto_region 3 with (go_at_call 63; refine HCR.out.mono ?_; rintro e w2 ⟨rfl, hb2⟩)
  have HW2 := Lib.hid (HW1.out.low hb2)
  have HB2 := Lib.hid (G.bthen HB1.out hb2)
  have c0 := HW2.out.l.cs.1
  have hlt := HW2.out.l.lt
  clear hb2
  by_cases hgT : good < T.size
  · have hP := HPost.out
    rw [if_pos hgT, if_pos hgT] at hP
    have CT := trim_any B db m s no good w2 HW2.out.t.d (HO.out.bd (by omega))
    have hO1 := HO.out.tri no good
    obtain ⟨E, hE⟩ : ∃ E, triE s no good = E := ⟨_, rfl⟩
    obtain ⟨s1, hs1⟩ : ∃ s1, triS s no good = s1 := ⟨_, rfl⟩
    rw [hE, hs1] at CT hP
    rw [hs1] at hO1
    have HP := Lib.hid hP
    replace CT := Lib.hid CT
    have HO1 := Lib.hid hO1
    clear hP hE hs1 hO1 HPost
    go_upto_region 5 with (go_at_call 68; refine CT.out.mono ?_; rintro e w3 ⟨rfl, hs3⟩)
    have HSt3 := Lib.hid (WStep.same HW.out HB2.out |>.then fun v1 h1 => WStep.disk h1 hs3)
    have HD3 := Lib.hid hs3
    have HW3 := Lib.hid (HW2.out.dstep hs3)
    have c0 := HW3.out.l.cs.1
    have hlt := HW3.out.l.lt
    clear hs3
    by_cases hE0 : E = 0
    · subst hE0
      have hP := HP.out
      rw [if_neg (by decide), if_neg (by decide)] at hP
      have HP := Lib.hid hP
      have CY := Lib.hid (sync_any B db m s1 no w3 HW3.out.t.d (HO1.out.bd (by omega)))
      clear hP
      go_wp2_with (go_at_call 59; refine CY.out.mono ?_; rintro e w4 ⟨rfl, hs4⟩)
      go_ret
      rw [HP.out.1, HP.out.2]
      exact ⟨rfl, HSt3.out.then fun v1 h1 => WStep.disk h1 hs4⟩
    · have hP := HP.out
      rw [if_pos hE0, if_pos hE0] at hP
      have HP := Lib.hid hP
      have hE1 : (E != 0) = true := by simpa using hE0
      clear hP
      go_wp2_with (fail)
      go_ret
      rw [HP.out.1, HP.out.2]
      exact ⟨rfl, HSt3.out⟩
  · have hP := HPost.out
    rw [if_neg hgT, if_neg hgT] at hP
    have HP := Lib.hid hP
    have CY := Lib.hid (sync_any B db m s no w2 HW2.out.t.d (HO.out.bd (by omega)))
    clear hP HPost
    go_wp2_with (go_at_call 59; refine CY.out.mono ?_; rintro e w4 ⟨rfl, hs4⟩)
    go_ret
    rw [HP.out.1, HP.out.2]
    exact ⟨rfl, WStep.same HW.out HB2.out |>.then fun v1 h1 => WStep.disk h1 hs4⟩
end Go.Proofs.YtdmjbdecemajpaaDoor.D
namespace Go.Proofs.YtdmjbdecemajpaaDoor.D
set_option linter.unusedVariables false
set_option linter.unusedSimpArgs false
open Go.RowKit
/-- all files but a generation's first ones are removed -/
def remOut (g l : Int) : List Int → DS → Int × DS
  | [], s => (0, s)
  | no :: r, s => if g * 100 ≤ no ∧ no ≤ g * 100 + l then remOut g l r s else if remE s no ≠ 0 then (remE s no, remS s no) else remOut g l r (remS s no)
structure OR where
  e : Int
  s : DS
  L : Option LS
def openT (p : Int × ByteArray) (x : Sg) (r : Int × DS) : OR :=
  if r.1 ≠ 0 then ⟨r.1, r.2, none⟩ else if x.last = 0 then ⟨0, r.2, some ⟨p.1, p.2, x.recs, x.last, 0, false⟩⟩
    else if tidE r.2 (p.1 * 100 + x.last) x.good ≠ 0 then ⟨tidE r.2 (p.1 * 100 + x.last) x.good, tidS r.2 (p.1 * 100 + x.last) x.good, none⟩
    else ⟨0, tidS r.2 (p.1 * 100 + x.last) x.good, some ⟨p.1, p.2, x.recs, x.last, 0, false⟩⟩
def segs (s : DS) (p : Int × ByteArray) : Sg := segP s p.1 99 1 ⟨[], 0, 0⟩
def openP (s : DS) : OR := match newP s s.keys.reverse with
  | none => ⟨18, s, none⟩
  | some p => openT p (segs s p) (remOut p.1 (segs s p).last s.keys s)
/-- what Open hands back -/
def OpenIs (db : Nat) (w : World) (ptr : Value) (w' : World) : Option LS → Prop
  | none => ptr = .pointer none
  | some L => ∃ lb v, ptr = .pointer (some ⟨lb, 0, none⟩) ∧ LInv w.heap.size db lb L v w'
theorem segP_last (s : DS) (g : Int) : ∀ (n : Nat) (k : Int) (x : Sg), 0 ≤ x.last ∧ x.last ≤ 99 → 0 ≤ k → k + n ≤ 100 → 0 ≤ (segP s g n k x).last ∧ (segP s g n k x).last ≤ 99
  | 0, k, x, h, _, _ => h
  | n + 1, k, x, h, h1, h2 => by
    rw [segP]
    split
    · split
      · show 0 ≤ k ∧ k ≤ 99; omega
      · exact segP_last s g n (k + 1) _ (by show 0 ≤ k ∧ k ≤ 99; omega) (by omega) (by omega)
    · exact h
theorem newP_rng (s : DS) : ∀ (l : List Int) (p : Int × ByteArray), (∀ a ∈ l, 1 ≤ a) → newP s l = some p → 1 ≤ p.1 ∧ p.1 ≤ 9999
  | [], p, _, h => by cases h
  | no :: l, p, h1, h => by
    rw [newP] at h
    have hno := h1 no List.mem_cons_self
    split at h
    · exact newP_rng s l p (fun a ha => h1 a (List.mem_cons_of_mem _ ha)) h
    · split at h
      · cases h
        show 1 ≤ no / 100 ∧ no / 100 ≤ 9999
        omega
      · exact newP_rng s l p (fun a ha => h1 a (List.mem_cons_of_mem _ ha)) h
theorem keys_pos {s : DS} {k : Nat} (h : Okk s k) : ∀ a ∈ s.keys, 1 ≤ a ∧ a ≤ 1000000 := fun a ha => by
  obtain ⟨f, hf⟩ := Option.isSome_iff_exists.1 ((keys_mem a).1 ha)
  exact h.rng _ (get_mem hf)
theorem keys_len {s : DS} {k : Nat} (h : Okk s k) : s.keys.length ≤ 110 := by
  show ((s.files.map (·.1)).mergeSort leI).length ≤ _
  rw [List.length_mergeSort, List.length_map]; exact h.len
theorem owns_base_of {w : World} {B B2 e size n : Nat} {v : Value} {xs : List Value} (h : w.ownsRow B e size v n xs) (hb : ∀ j, v.ownBlock = some j → B2 ≤ j) : w.ownsRow B2 e size v n xs := by
  obtain ⟨hl, h | ⟨g, cap, cur, rfl, h1, h2⟩⟩ := h
  · exact ⟨hl, .inl h⟩
  · exact ⟨hl, .inr ⟨g, cap, cur, rfl, hb g rfl, h2⟩⟩
/-- a log that began in new blocks: what the caller sees -/
theorem WStep.out {B db m lb : Nat} {s : DS} {L : LS} {v0 : Value} {s0 : DS} {w W1 w' : World} (hd : DInv B db m s0 w) (hb : Below w.heap.size w W1) (hl : w.heap.size ≤ lb) (hv : v0.ownBlock = none) (h : WStep B db m lb v0 W1 s L w') :
    DStep B db m w s w' ∧ ∃ v', LInv w.heap.size db lb L v' w' := by
  obtain ⟨v', hw, hf, hfr⟩ := h
  refine ⟨⟨hw.t.d, hb.os ▸ hfr.os, hb.tape ▸ hfr.tape, hb.output ▸ hfr.output, Nat.le_trans hb.size hfr.size, fun j hj hn => ?_⟩, v', hw.l.cells, hl, owns_base_of hw.l.row fun j hj => ?_⟩
  · refine (hfr.block j (Nat.lt_of_lt_of_le hj hb.size) ?_).trans (hb.block j hj)
    rintro (h1 | rfl | h1)
    · exact hn h1
    · omega
    · rw [hv] at h1; cases h1
  · rcases hf j (.inr (.inr hj)) with (h1 | rfl | h1) | h1
    · exact absurd h1 (hw.apart (.inr hj))
    · exact absurd hj hw.l.off
    · rw [hv] at h1; cases h1
    · exact Nat.le_trans hb.size h1
theorem WF.disk {B db m lb : Nat} {v v1 : Value} {w w1 w2 : World} {s2 : DS} (h : WF db m lb v w v1 w1) (k : DStep B db m w1 s2 w2) : WF db m lb v w v1 w2 :=
  ⟨h.foot, h.fr.trans (k.2.wide (G := WFoot db m lb v1) fun j hj => .inl hj) h.foot⟩
theorem rem_on {s : DS} {no : Int} (hoff : s.off = false) (h : remE s no = 0) : (remS s no).off = false := by
  unfold remE synE at h
  unfold remS
  by_cases h0 : mayE s no true = 0
  · rw [if_neg (by rw [h0]; decide)] at h
    rw [if_neg (by rw [h0]; decide), if_neg (by rw [h]; decide)]
    show (stepS s).off = false
    unfold stepE at h
    unfold stepS
    by_cases hf : s.fuse = 1
    · rw [if_pos hf] at h; cases h
    · rw [if_neg hf]; exact hoff
  · rw [if_pos h0] at h; exact absurd h h0
/-- what stands at the head of a round of removing -/
structure RmI (B db m : Nat) (g l : Int) (keys : List Int) (R : Int × DS) (k : Nat) (w4 : World) (j : Nat) (wr : World) : Prop where
  st : ∃ si, DStep B db m w4 si wr ∧ Okk si (k + j) ∧ si.off = false ∧ R = remOut g l (keys.drop j) si
set_option maxRecDepth 100000 in
set_option maxHeartbeats 8000000 in
theorem Open_any (B db m : Nat) (s : DS) (k : Nat) (w : World) (h : DT B db m s w) (hO : Okk s k) (hk : k ≤ 800000) (hoff : s.off = false) (hS : ∀ no, (s.fl no).data.size ≤ 100000) :
    Calls Tryd.prog 32 #[.pointer (some ⟨db, 0, none⟩)] w fun e w' => ∃ ptr, e = .returned (.tuple #[ptr, .int .i64 (openP s).e]) ∧ DStep B db m w (openP s).s w' ∧ OpenIs db w ptr w' (openP s).L := by
  have CO := on_any B db m s w h.d
  rw [hoff] at CO
  have CO := Lib.hid CO
  have hlt := h.d.lt
  have HT := Lib.hid h
  have HO := Lib.hid hO
  have HOff := Lib.hid hoff
  have HS := Lib.hid hS
  have CN := newest_any B db m s k w h hO hoff
  cases hN : newP s s.keys.reverse with
  | none =>
    have HP : Hid (openP s = ⟨18, s, none⟩) := Lib.hid (by rw [openP, hN])
    rw [hN] at CN
    unfold newR at CN
    have CN := Lib.hid CN
    clear h hO hoff hS hN
    go_enter Tryd.func32, Tryd.ntmps32
    go_wp2_with (first | (go_at_call 43; refine CO.out.mono ?_; rintro e w1 ⟨rfl, rfl⟩) | (go_at_call 50; refine CN.out.mono ?_; rintro e w1 ⟨rfl, hb1⟩))
    go_ret2
    rw [HP.out]
    exact ⟨_, rfl, DStep.same HT.out.d hb1, rfl⟩
  | some p =>
    have hP : openP s = openT p (segs s p) (remOut p.1 (segs s p).last s.keys s) := by rw [openP, hN]
    have hg := newP_rng s _ p (fun a ha => (keys_pos hO a (List.mem_reverse.1 ha)).1) hN
    have hl := segP_last s p.1 99 1 ⟨[], 0, 0⟩ ⟨by decide, by decide⟩ (by decide) (by decide)
    rw [show segP s p.1 99 1 ⟨[], 0, 0⟩ = segs s p from rfl] at hl
    obtain ⟨g, t⟩ := p
    rw [hN] at CN
    unfold newR at CN
    have CN := Lib.hid CN
    replace hg : 1 ≤ g ∧ g ≤ 9999 := hg
    have hgg : 0 ≤ g ∧ g ≤ 100000 := by omega
    obtain ⟨x, hx⟩ : ∃ x, segs s (g, t) = x := ⟨_, rfl⟩
    rw [hx] at hl hP
    obtain ⟨R, hR⟩ : ∃ R, remOut g x.last s.keys s = R := ⟨_, rfl⟩
    rw [show ((g, t) : Int × ByteArray).1 = g from rfl, hR] at hP
    have HP := Lib.hid hP
    have HX := Lib.hid (show segP s g 99 1 ⟨[], 0, 0⟩ = x from hx)
    have HR := Lib.hid hR
    clear h hO hoff hS hN hP hx hR
    go_enter Tryd.func32, Tryd.ntmps32
    go_upto_region 8 with (first | (go_at_call 43; refine CO.out.mono ?_; rintro e w1 ⟨rfl, rfl⟩) | (go_at_call 50; refine CN.out.mono ?_; rintro e w1 ⟨rfl, hb1⟩))
    have HB1 := Lib.hid hb1
    have hW0 : WInv B db m w1.heap.size s ⟨g, t, [], 0, 0, false⟩ (.slice none 0 0) (w1.alloc (.cells #[.pointer (some ⟨db, 0, none⟩), .int .i64 g, .string t, .slice none 0 0, .int .i64 0, .int .i64 0, .bool false] 85)) := by
      have ht := (HT.out.low hb1)
      refine ⟨ht.low (bel_allocT _ _), G.heap_new _ _, Nat.le_trans ht.d.hB (Nat.le_of_lt ht.d.lt), G.owns_nil _ _ _ _⟩
    have hBx : Below w1.heap.size w1 (w1.alloc (.cells #[.pointer (some ⟨db, 0, none⟩), .int .i64 g, .string t, .slice none 0 0, .int .i64 0, .int .i64 0, .bool false] 85)) := bel_allocT _ _
    clear hb1
    go_upto_region 9 with (fail)
    generalize w1.alloc (.cells #[.pointer (some ⟨db, 0, none⟩), .int .i64 g, .string t, .slice none 0 0, .int .i64 0, .int .i64 0, .bool false] 85) = W1 at *
    have HBW := Lib.hid (G.bthen HB1.out hBx)
    have HLB : Hid (w.heap.size ≤ w1.heap.size) := Lib.hid HB1.out.size
    obtain ⟨lb, hlb⟩ : ∃ lb, lb = w1.heap.size := ⟨_, rfl⟩
    rw [← hlb] at hW0 HLB ⊢
    have CS := segments_any B db m lb s ⟨g, t, [], 0, 0, false⟩ (.slice none 0 0) k W1 hW0 HO.out HOff.out HS.out hgg (Nat.zero_le _)
    rw [show segP s (LS.mk g t [] 0 0 false).gen 99 1 ⟨(LS.mk g t [] 0 0 false).recs, (LS.mk g t [] 0 0 false).last, 0⟩ = x from HX.out] at CS
    have CS := Lib.hid CS
    clear hW0 hBx hlb HB1
    go_upto_region 10 with (go_at_call 51; refine CS.out.mono ?_; rintro e w3 ⟨rfl, hs3⟩)
    have HS3 : Hid (WStep B db m lb (.slice none 0 0) W1 s ⟨g, t, x.recs, x.last, 0, false⟩ w3) := Lib.hid hs3
    clear hs3
    obtain ⟨v3, hw3, hf3, hr3⟩ := HS3.out
    have CL := Lib.hid (list_any B db m s w3 hw3.t.d HO.out.nd HO.out.rng (Nat.le_trans HO.out.len (by decide)))
    have HW3 := Lib.hid hw3
    have HF3 : Hid (WF db m lb (.slice none 0 0) W1 v3 w3) := Lib.hid ⟨hf3, hr3⟩
    clear hw3 hf3 hr3
    obtain ⟨n, hn⟩ : ∃ n, n = s.keys.length := ⟨_, rfl⟩
    have hn1 : n ≤ 110 := by rw [hn]; exact keys_len HO.out
    have HN := Lib.hid hn
    rw [← hn] at CL
    clear hn
    go_upto_block 1 with (go_at_call 52; refine CL.out.mono ?_; rintro e w4 ⟨lv, rfl, hown, hb4⟩; obtain ⟨LA, lc, rfl⟩ := owns_shape hown)
    have HOwn := Lib.hid hown
    have HW4 := Lib.hid (HW3.out.low hb4)
    have HF4 := Lib.hid (HF3.out.low hb4)
    have HP0 : Hid (RmI B db m g x.last s.keys R k w4 0 w4) := Lib.hid ⟨s, DStep.same HW4.out.t.d (Below.refl _ _), HO.out, HOff.out, by rw [List.drop_zero]; exact HR.out.symm⟩
    have HLS : Hid (db < w3.heap.size ∧ m < w3.heap.size) := Lib.hid ⟨HW3.out.t.d.lt, HW3.out.t.d.mlt⟩
    clear hown hb4
    go_wp2_with (fail)
    go_loopw [38] (fun i wr => ∃ j : Nat, j ≤ n ∧ i = .int .i64 j ∧ Hid (RmI B db m g x.last s.keys R k w4 j wr)) (fun i _ => n - (intOf i).toNat)
    case atStart => exact ⟨0, by omega, by go_num, HP0⟩
    case round =>
      obtain ⟨j, hj, rfl, HK⟩ := hrel
      obtain ⟨si, hst, hOi, hoffi, hRi⟩ := HK.out.st
      have HOffI := Lib.hid hoffi
      clear hoffi
      have HWr := Lib.hid (HW4.out.dstep hst)
      have HSt := Lib.hid hst
      have HOi := Lib.hid hOi
      by_cases hjn : j < n
      · have hjk : j < s.keys.length := by have := HN.out; omega
        obtain ⟨no, hno⟩ : ∃ no, no = s.keys[j] := ⟨_, rfl⟩
        rw [List.drop_eq_getElem_cons hjk, ← hno, remOut] at hRi
        have hnp := keys_pos HO.out no (hno ▸ List.getElem_mem hjk)
        obtain ⟨_, _, _, hvl, _, _, hcl⟩ := G.HasRow.of_owns HOwn.out
        cases hvl
        obtain ⟨lad, hla, e0⟩ := hcl j (kv no) (by rw [List.getElem?_map, List.getElem?_eq_getElem hjk, hno]; rfl)
        have hnf : ¬ Foot db m (lad.add j).block := by
          rw [add_block]
          obtain ⟨_, ⟨h1, _⟩ | ⟨g9, cap, cur, h1, h2, _⟩⟩ := HOwn.out
          · rw [hla] at h1; cases h1
          · rw [hla] at h1; cases h1
            rintro (e9 | e9)
            · have := HLS.out.1; simp only at e9; omega
            · have := HLS.out.2; simp only at e9; omega
        subst hla
        have e0 := cell_fr hst.2 hnf e0
        replace e0 : wr.cell? (lad.add j) = some (.int .i64 no) := e0
        have c4 := HWr.out.l.cs.2.2.2.2.1
        replace c4 : wr.cell? ⟨lb, 4, none⟩ = some (.int .i64 x.last) := c4
        have hlt := HWr.out.l.lt
        have HRi := Lib.hid hRi
        clear hcl hnf hno hRi hst hOi HK
        by_cases hge : g * 100 ≤ no
        · by_cases hle : no ≤ g * 100 + x.last
          · have hRi := HRi.out
            rw [if_pos ⟨hge, hle⟩] at hRi
            have HRj := Lib.hid hRi
            have hd1 : decide (g * 100 ≤ no) = true := decide_eq_true hge
            have hd2 : decide (no ≤ g * 100 + x.last) = true := decide_eq_true hle
            clear hRi HRi
            go_upto_region 13 with (fail)
            go_quiet ((go_at_call 53; exact Calls.quiet_of_same (begin_any g hgg _)))
            go_wp2
            go_roundw
            case rel => exact ⟨j + 1, by omega, by go_num, Lib.hid ⟨si, DStep.of (HSt.out.1.below (G.bdrewN (Below.refl _ _) _)) (HSt.out.2.trans (Fr.of_below (F := Foot db m) (G.bdrewN (Below.refl _ _) _)) (fun _ hj => .inl hj)), HOi.out.mono (by omega), HOffI.out, HRj.out⟩⟩
            case measure => simp [intOf]; omega
          · have hRi := HRi.out
            rw [if_neg (by omega)] at hRi
            have hd1 : decide (g * 100 ≤ no) = true := decide_eq_true hge
            have hd2 : decide (no ≤ g * 100 + x.last) = false := decide_eq_false hle
            have CR := fun V (hV : DInv B db m si V) => remove_any B db m si no V hV (HOi.out.bd (by omega))
            have hO1 := HOi.out.rem no
            have hon := fun h => rem_on (s := si) (no := no) HOffI.out h
            obtain ⟨E, hE⟩ : ∃ E, remE si no = E := ⟨_, rfl⟩
            obtain ⟨s1, hs1⟩ : ∃ s1, remS si no = s1 := ⟨_, rfl⟩
            rw [hE, hs1] at hon
            have HOn := Lib.hid hon
            rw [hE, hs1] at hRi
            simp only [hE, hs1] at CR
            rw [hs1] at hO1
            have HRj := Lib.hid hRi
            have HCR := Lib.hid CR
            have HO1 := Lib.hid hO1
            clear hRi HRi CR hO1 hon hE hs1
            go_upto_region 13 with (fail)
            go_quiet ((go_at_call 53; exact Calls.quiet_of_same (begin_any g hgg _)))
            have hbq : Below wr.heap.size wr (wr.drewN nq) := G.bdrewN (Below.refl _ _) nq
            generalize wr.drewN nq = wq at *
            have CQ := Lib.hid (HCR.out wq (HWr.out.t.d.below hbq))
            have HBQ := Lib.hid hbq
            clear hbq c4 hlt e0
            go_upto_region 15 with (go_at_call 54; refine CQ.out.mono ?_; rintro e w6 ⟨rfl, hs6⟩)
            have HS6 := Lib.hid (show DStep B db m w4 s1 w6 from DStep.of hs6.1 (HSt.out.2.trans ((Fr.of_below HBQ.out).trans hs6.2 (fun _ hj => .inl hj)) (fun _ hj => .inl hj)))
            clear hs6
            by_cases hE0 : E = 0
            · have hRi := HRj.out
              rw [if_neg (by rw [hE0]; decide)] at hRi
              have HRk := Lib.hid hRi
              have HOff1 := Lib.hid (HOn.out hE0)
              clear hRi
              subst hE0
              go_wp2_with (fail)
              go_roundw
              case rel => exact ⟨j + 1, by omega, by go_num, Lib.hid ⟨s1, HS6.out, HO1.out.mono (by omega), HOff1.out, HRk.out⟩⟩
              case measure => simp [intOf]; omega
            · have hRi := HRj.out
              rw [if_pos hE0] at hRi
              have HRk := Lib.hid hRi
              have hE1 : (E != 0) = true := by simpa using hE0
              have HE0 := Lib.hid hE0
              clear hRi hE0
              go_wp2_with (fail)
              go_ret2
              have hz := WStep.out HT.out.d HBW.out HLB.out rfl (HF4.out.cat (WStep.disk HW4.out HS6.out))
              rw [HP.out, HRk.out]
              unfold openT
              rw [if_pos HE0.out]
              exact ⟨_, rfl, hz.1, rfl⟩
        · have hRi := HRi.out
          rw [if_neg (by omega)] at hRi
          have hd1 : decide (g * 100 ≤ no) = false := decide_eq_false hge
          have CR := fun V (hV : DInv B db m si V) => remove_any B db m si no V hV (HOi.out.bd (by omega))
          have hO1 := HOi.out.rem no
          have hon := fun h => rem_on (s := si) (no := no) HOffI.out h
          obtain ⟨E, hE⟩ : ∃ E, remE si no = E := ⟨_, rfl⟩
          obtain ⟨s1, hs1⟩ : ∃ s1, remS si no = s1 := ⟨_, rfl⟩
          rw [hE, hs1] at hon
          have HOn := Lib.hid hon
          rw [hE, hs1] at hRi
          simp only [hE, hs1] at CR
          rw [hs1] at hO1
          have HRj := Lib.hid hRi
          have HCR := Lib.hid CR
          have HO1 := Lib.hid hO1
          clear hRi HRi CR hO1 hon hE hs1
          go_upto_region 13 with (fail)
          go_quiet ((go_at_call 53; exact Calls.quiet_of_same (begin_any g hgg _)))
          have hbq : Below wr.heap.size wr (wr.drewN nq) := G.bdrewN (Below.refl _ _) nq
          generalize wr.drewN nq = wq at *
          have CQ := Lib.hid (HCR.out wq (HWr.out.t.d.below hbq))
          have HBQ := Lib.hid hbq
          clear hbq c4 hlt e0
          go_upto_region 15 with (go_at_call 54; refine CQ.out.mono ?_; rintro e w6 ⟨rfl, hs6⟩)
          have HS6 := Lib.hid (show DStep B db m w4 s1 w6 from DStep.of hs6.1 (HSt.out.2.trans ((Fr.of_below HBQ.out).trans hs6.2 (fun _ hj => .inl hj)) (fun _ hj => .inl hj)))
          clear hs6
          by_cases hE0 : E = 0
          · have hRi := HRj.out
            rw [if_neg (by rw [hE0]; decide)] at hRi
            have HRk := Lib.hid hRi
            have HOff1 := Lib.hid (HOn.out hE0)
            clear hRi
            subst hE0
            go_wp2_with (fail)
            go_roundw
            case rel => exact ⟨j + 1, by omega, by go_num, Lib.hid ⟨s1, HS6.out, HO1.out.mono (by omega), HOff1.out, HRk.out⟩⟩
            case measure => simp [intOf]; omega
          · have hRi := HRj.out
            rw [if_pos hE0] at hRi
            have HRk := Lib.hid hRi
            have hE1 : (E != 0) = true := by simpa using hE0
            have HE0 := Lib.hid hE0
            clear hRi hE0
            go_wp2_with (fail)
            go_ret2
            have hz := WStep.out HT.out.d HBW.out HLB.out rfl (HF4.out.cat (WStep.disk HW4.out HS6.out))
            rw [HP.out, HRk.out]
            unfold openT
            rw [if_pos HE0.out]
            exact ⟨_, rfl, hz.1, rfl⟩
      · have : j = n := by omega
        subst this
        rw [List.drop_of_length_le (by have := HN.out; omega), remOut] at hRi
        have c4 := HWr.out.l.cs.2.2.2.2.1
        replace c4 : wr.cell? ⟨lb, 4, none⟩ = some (.int .i64 x.last) := c4
        have hlt := HWr.out.l.lt
        have HRi := Lib.hid hRi
        clear hst hOi hRi HK
        by_cases hl0 : x.last = 0
        · have hP := HP.out
          rw [HRi.out, openT, if_neg (show ¬ ((0 : Int) ≠ 0) by decide), if_pos hl0] at hP
          have HP1 := Lib.hid hP
          have HL0 := Lib.hid hl0
          rw [hl0] at c4
          clear hP hl0
          go_wp2_with (fail)
          go_ret2
          have hz := WStep.out HT.out.d HBW.out HLB.out rfl (HF4.out.cat (WStep.disk HW4.out HSt.out))
          rw [HP1.out]
          obtain ⟨v', hv'⟩ := hz.2
          exact ⟨_, rfl, hz.1, lb, v', rfl, hv'⟩
        · have hP := HP.out
          rw [HRi.out, openT, if_neg (show ¬ ((0 : Int) ≠ 0) by decide), if_neg hl0] at hP
          have hl9 : (x.last == 0) = false := by simpa using hl0
          obtain ⟨E, hE⟩ : ∃ E, tidE si (g * 100 + x.last) x.good = E := ⟨_, rfl⟩
          obtain ⟨S, hS⟩ : ∃ S, tidS si (g * 100 + x.last) x.good = S := ⟨_, rfl⟩
          have CT := tidy_any B db m lb si ⟨g, t, x.recs, x.last, 0, false⟩ v3 (k + j) x.good wr HWr.out HOi.out (by omega) HOffI.out hgg (by show 0 ≤ x.last ∧ x.last ≤ 1000; omega)
          replace CT : Calls Tryd.prog 55 #[.pointer (some ⟨lb, 0, none⟩), .int .i64 x.good] wr fun e w' => e = .returned (.int .i64 (tidE si (g * 100 + x.last) x.good)) ∧ WStep B db m lb v3 wr (tidS si (g * 100 + x.last) x.good) ⟨g, t, x.recs, x.last, 0, false⟩ w' := CT
          rw [hE, hS] at CT
          simp only [hE, hS] at hP
          have HP1 := Lib.hid hP
          have HFr := Lib.hid (HF4.out.disk HSt.out)
          have CT := Lib.hid CT
          have HL0 := Lib.hid hl0
          clear hP hE hS hl0
          go_upto_region 21 with (go_at_call 55; refine CT.out.mono ?_; rintro e w6 ⟨rfl, hs6⟩)
          have HS6 := Lib.hid hs6
          clear hs6
          by_cases hE0 : E = 0
          · have hP := HP1.out
            rw [if_neg (by rw [hE0]; decide)] at hP
            have HP2 := Lib.hid hP
            clear hP
            subst hE0
            go_wp2_with (fail)
            go_ret2
            have hz := WStep.out HT.out.d HBW.out HLB.out rfl (HFr.out.cat HS6.out)
            rw [HP2.out]
            obtain ⟨v', hv'⟩ := hz.2
            exact ⟨_, rfl, hz.1, lb, v', rfl, hv'⟩
          · have hP := HP1.out
            rw [if_pos hE0] at hP
            have HP2 := Lib.hid hP
            have hE1 : (E != 0) = true := by simpa using hE0
            clear hP hE0
            go_wp2_with (fail)
            go_ret2
            have hz := WStep.out HT.out.d HBW.out HLB.out rfl (HFr.out.cat HS6.out)
            rw [HP2.out]
            exact ⟨_, rfl, hz.1, rfl⟩
        
end Go.Proofs.YtdmjbdecemajpaaDoor.D
