/- The log in memory; begin, end, lay, what a log tells; a log that is not there. -/
import Derived.Test.YtdmjbdecemajpaaDoorDk7
import Derived.Test.YtdmjbdecemajpaaDoorDlP
import Derived.Test.YtdmjbdecemajpaaDoorFrm10
import Derived.StillTailTactics
import Derived.Deep.QuietTactic
namespace Go.Proofs.YtdmjbdecemajpaaDoor.D
set_option linter.unusedVariables false
set_option linter.unusedSimpArgs false
open Go.RowKit
theorem Okk.bd {s : DS} {k : Nat} (h : Okk s k) (hk : k ≤ 1000000) : Bd s :=
  ⟨by have := h.steps; omega, h.fuse, fun no => (fl_ok h.fl no).2, fun no => (fl_ok h.fl no).1, Nat.le_trans h.len (by decide)⟩
theorem Okk.rng {s : DS} {k : Nat} (h : Okk s k) : ∀ p ∈ s.files, 1 ≤ p.1 ∧ p.1 ≤ 1000000 := fun p hp => (h.fl p hp).1
theorem Okk.start : Okk DS0 0 := ⟨List.Pairwise.nil, Nat.zero_le _, fun p hp => by simp [DS0] at hp, ⟨Int.le_refl _, by show (0 : Int) ≤ _; omega⟩, ⟨Int.le_refl _, by show (0 : Int) ≤ _; omega⟩⟩
theorem owns_block {w : World} {B e size n : Nat} {v : Value} {xs : List Value} (h : w.ownsRow B e size v n xs) {j : Nat} (hj : v.ownBlock = some j) : ∃ c, w.heap[j]? = some (.cells c e (0, 0)) := by
  obtain ⟨_, ⟨rfl, rfl⟩ | ⟨g, cap, cur, rfl, hb, hh, _⟩⟩ := h
  · simp [Value.ownBlock] at hj
  · have : g = j := by simpa [Value.ownBlock] using hj
    subst this; exact ⟨_, hh⟩
theorem owns_kept {w w1 : World} {B e size n : Nat} {v : Value} {xs : List Value} (h : w.ownsRow B e size v n xs) (hk : ∀ j, v.ownBlock = some j → w1.heap[j]? = w.heap[j]?) : w1.ownsRow B e size v n xs := by
  obtain ⟨hl, ⟨rfl, rfl⟩ | ⟨g, cap, cur, rfl, hb, hh, r⟩⟩ := h
  · exact ⟨hl, .inl ⟨rfl, rfl⟩⟩
  · exact ⟨hl, .inr ⟨g, cap, cur, rfl, hb, (hk g rfl).trans hh, r⟩⟩
theorem owns_base_le {w : World} {B B' e size n : Nat} {v : Value} {xs : List Value} (h : w.ownsRow B' e size v n xs) (hb : B ≤ B') : w.ownsRow B e size v n xs := by
  obtain ⟨hl, h | ⟨g, cap, cur, rfl, h1, h2⟩⟩ := h
  · exact ⟨hl, .inl h⟩
  · exact ⟨hl, .inr ⟨g, cap, cur, rfl, Nat.le_trans hb h1, h2⟩⟩
theorem owns_lt {w : World} {B e size n : Nat} {v : Value} {xs : List Value} (h : w.ownsRow B e size v n xs) {j : Nat} (hj : v.ownBlock = some j) : j < w.heap.size := by
  obtain ⟨c, hc⟩ := owns_block h hj
  exact (Array.getElem?_eq_some_iff.1 hc).1
theorem cells_not {w : World} {a b : Nat} {c c' : Array Value} {e e' : TypeId} {f f' : Nat × Nat} (h : w.heap[a]? = some (.cells c e f)) (k : w.heap[b]? = some (.cells c' e' f')) (hne : e ≠ e') : a ≠ b := by
  rintro rfl
  rw [h] at k; injection k with k; injection k with _ k _; exact hne k
theorem owns_shape {w : World} {B e size n : Nat} {v : Value} {xs : List Value} (h : w.ownsRow B e size v n xs) : ∃ A c, v = .slice A n c := by
  obtain ⟨_, ⟨rfl, rfl⟩ | ⟨g, cap, cur, rfl, _⟩⟩ := h
  · exact ⟨_, _, rfl⟩
  · exact ⟨_, _, rfl⟩
/-- the state of a log -/
structure LS where
  gen : Int
  text : ByteArray
  recs : List ByteArray
  last : Int
  pend : Int
  over : Bool
def lcells (db : Nat) (L : LS) (v : Value) : Array Value := #[.pointer (some ⟨db, 0, none⟩), .int .i64 L.gen, .string L.text, v, .int .i64 L.last, .int .i64 L.pend, .bool L.over]
def LFoot (lb : Nat) (v : Value) (j : Nat) : Prop := j = lb ∨ v.ownBlock = some j
structure LInv (B db lb : Nat) (L : LS) (v : Value) (w : World) : Prop where
  cells : w.heap[lb]? = some (.cells (lcells db L v) 85 (0, 0))
  hB : B ≤ lb
  row : w.ownsRow B 9 1 v L.recs.length (strs L.recs)
theorem LInv.lt {B db lb : Nat} {L : LS} {v : Value} {w : World} (h : LInv B db lb L v w) : lb < w.heap.size := (Array.getElem?_eq_some_iff.1 h.cells).1
theorem LInv.foot_lt {B db lb : Nat} {L : LS} {v : Value} {w : World} (h : LInv B db lb L v w) {j : Nat} (hj : LFoot lb v j) : j < w.heap.size := by
  rcases hj with rfl | hi
  · exact h.lt
  · exact owns_lt h.row hi
theorem LInv.foot_B {B db lb : Nat} {L : LS} {v : Value} {w : World} (h : LInv B db lb L v w) {j : Nat} (hj : LFoot lb v j) : B ≤ j := by
  rcases hj with rfl | hi
  · exact h.hB
  · exact G.owns_base h.row j hi
theorem LInv.off {B db lb : Nat} {L : LS} {v : Value} {w : World} (h : LInv B db lb L v w) : v.ownBlock ≠ some lb := fun e => by
  obtain ⟨c, hc⟩ := owns_block h.row e
  exact cells_not hc h.cells (by decide) rfl
theorem LInv.keep {B db lb : Nat} {L : LS} {v : Value} {w w1 : World} (h : LInv B db lb L v w) (hk : ∀ j, LFoot lb v j → w1.heap[j]? = w.heap[j]?) : LInv B db lb L v w1 :=
  ⟨(hk lb (.inl rfl)).trans h.cells, h.hB, owns_kept h.row fun j hj => hk j (.inr hj)⟩
/-- disk and log, and the table of sums -/
structure DT (B db m : Nat) (s : DS) (w : World) : Prop where
  d : DInv B db m s w
  tab : TabOf w
  pos : 0 < B
structure WInv (B db m lb : Nat) (s : DS) (L : LS) (v : Value) (w : World) : Prop where
  t : DT B db m s w
  l : LInv B db lb L v w
def WFoot (db m lb : Nat) (v : Value) (j : Nat) : Prop := Foot db m j ∨ LFoot lb v j
theorem tab_fr {F : Nat → Prop} {w w1 : World} (h : TabOf w) (hf : Fr F w w1) (h0 : ¬ F 0) : TabOf w1 := fun j hj => by
  have h1 := h j hj
  rw [← h1]
  have hb := hf.block 0 (World.block_lt_of_cell? w _ h1) h0
  simp [World.cell?, hb]
theorem DT.low {B db m : Nat} {s : DS} {w w1 : World} (h : DT B db m s w) (hb : Below w.heap.size w w1) : DT B db m s w1 := ⟨h.d.below hb, h.tab.below hb, h.pos⟩
theorem DT.step {B db m : Nat} {s s' : DS} {w w1 : World} (h : DT B db m s w) (k : DStep B db m w s' w1) : DT B db m s' w1 :=
  ⟨k.1, tab_fr h.tab k.2 (fun hf => by have := h.d.foot_B hf; have := h.pos; omega), h.pos⟩
theorem DInv.m_not {B db m : Nat} {s : DS} {w : World} (h : DInv B db m s w) {j : Nat} {c : Array Value} {e : TypeId} {f : Nat × Nat} (hj : w.heap[j]? = some (.cells c e f)) (he : e ≠ 81) : ¬ Foot db m j := by
  rintro (rfl | rfl)
  · exact cells_not hj h.cells he rfl
  · obtain ⟨es, ck, hh, _⟩ := h.map
    rw [hj] at hh; cases hh
theorem WInv.apart {B db m lb : Nat} {s : DS} {L : LS} {v : Value} {w : World} (h : WInv B db m lb s L v w) {j : Nat} (hj : LFoot lb v j) : ¬ Foot db m j := by
  rcases hj with rfl | hj
  · exact h.t.d.m_not h.l.cells (by decide)
  · obtain ⟨c, hc⟩ := owns_block h.l.row hj
    exact h.t.d.m_not hc (by decide)
theorem WInv.foot_lt {B db m lb : Nat} {s : DS} {L : LS} {v : Value} {w : World} (h : WInv B db m lb s L v w) {j : Nat} (hj : WFoot db m lb v j) : j < w.heap.size := by
  rcases hj with hj | hj
  · exact h.t.d.foot_lt hj
  · exact h.l.foot_lt hj
theorem WInv.foot_B {B db m lb : Nat} {s : DS} {L : LS} {v : Value} {w : World} (h : WInv B db m lb s L v w) {j : Nat} (hj : WFoot db m lb v j) : B ≤ j := by
  rcases hj with hj | hj
  · exact h.t.d.foot_B hj
  · exact h.l.foot_B hj
theorem WInv.low {B db m lb : Nat} {s : DS} {L : LS} {v : Value} {w w1 : World} (h : WInv B db m lb s L v w) (hb : Below w.heap.size w w1) : WInv B db m lb s L v w1 :=
  ⟨h.t.low hb, h.l.keep fun j hj => hb.block j (h.l.foot_lt hj)⟩
theorem WInv.dstep {B db m lb : Nat} {s s' : DS} {L : LS} {v : Value} {w w1 : World} (h : WInv B db m lb s L v w) (k : DStep B db m w s' w1) : WInv B db m lb s' L v w1 :=
  ⟨h.t.step k, h.l.keep fun j hj => k.2.block j (h.l.foot_lt hj) (h.apart hj)⟩
theorem Fr.wide {F G : Nat → Prop} {w w1 : World} (h : Fr F w w1) (hG : ∀ j, F j → G j) : Fr G w w1 := ⟨h.os, h.tape, h.output, h.size, fun j hj hn => h.block j hj (fun hf => hn (hG j hf))⟩
/-- a call on the log has turned both -/
def WStep (B db m lb : Nat) (v : Value) (w : World) (s' : DS) (L' : LS) (w' : World) : Prop :=
  ∃ v', WInv B db m lb s' L' v' w' ∧ (∀ j, WFoot db m lb v' j → WFoot db m lb v j ∨ w.heap.size ≤ j) ∧ Fr (WFoot db m lb v) w w'
theorem WStep.same {B db m lb : Nat} {s : DS} {L : LS} {v : Value} {w w1 : World} (h : WInv B db m lb s L v w) (hb : Below w.heap.size w w1) : WStep B db m lb v w s L w1 := ⟨v, h.low hb, fun j hj => .inl hj, Fr.of_below hb⟩
theorem WStep.disk {B db m lb : Nat} {s s' : DS} {L : LS} {v : Value} {w w1 : World} (h : WInv B db m lb s L v w) (k : DStep B db m w s' w1) : WStep B db m lb v w s' L w1 := ⟨v, h.dstep k, fun j hj => .inl hj, k.2.wide fun j hj => .inl hj⟩
theorem WStep.then {B db m lb : Nat} {s1 s2 : DS} {L1 L2 : LS} {v : Value} {w w1 w2 : World} (h : WStep B db m lb v w s1 L1 w1) (k : ∀ v1, WInv B db m lb s1 L1 v1 w1 → WStep B db m lb v1 w1 s2 L2 w2) : WStep B db m lb v w s2 L2 w2 := by
  obtain ⟨v1, h1, h2, h3⟩ := h
  obtain ⟨v2, k1, k2, k3⟩ := k v1 h1
  refine ⟨v2, k1, fun j hj => ?_, h3.trans k3 h2⟩
  rcases k2 j hj with h4 | h4
  · exact h2 j h4
  · exact .inr (Nat.le_trans h3.size h4)
theorem WStep.low {B db m lb : Nat} {s1 : DS} {L1 : LS} {v : Value} {w w1 w2 : World} (h : WStep B db m lb v w s1 L1 w1) (hb : Below w1.heap.size w1 w2) : WStep B db m lb v w s1 L1 w2 := h.then fun v1 h1 => WStep.same h1 hb
theorem WStep.below {B db m lb : Nat} {s s1 : DS} {L L1 : LS} {v : Value} {w0 w w1 : World} (h : WInv B db m lb s L v w) (hb : Below B w0 w) (k : WStep B db m lb v w s1 L1 w1) : Below B w0 w1 := by
  obtain ⟨v1, h1, h2, h3⟩ := k
  exact Fr.below hb (Nat.le_trans h.l.hB (Nat.le_of_lt h.l.lt)) h3 (fun _ hj => h.foot_B hj)
theorem LInv.cell {B db lb : Nat} {L : LS} {v : Value} {w : World} (h : LInv B db lb L v w) (i : Nat) : w.cell? ⟨lb, i, none⟩ = (lcells db L v)[i]? := by simp [World.cell?, h.cells]
theorem LInv.free {B db lb : Nat} {L : LS} {v : Value} {w : World} (h : LInv B db lb L v w) (i : Nat) : w.frozen? ⟨lb, i, none⟩ = false := by simp [World.frozen?, h.cells]
/-- its seven cells -/
theorem LInv.cs {B db lb : Nat} {L : LS} {v : Value} {w : World} (h : LInv B db lb L v w) : w.cell? ⟨lb, 0, none⟩ = some (.pointer (some ⟨db, 0, none⟩)) ∧ w.cell? ⟨lb, 1, none⟩ = some (.int .i64 L.gen) ∧ w.cell? ⟨lb, 2, none⟩ = some (.string L.text) ∧ w.cell? ⟨lb, 3, none⟩ = some v ∧ w.cell? ⟨lb, 4, none⟩ = some (.int .i64 L.last) ∧ w.cell? ⟨lb, 5, none⟩ = some (.int .i64 L.pend) ∧ w.cell? ⟨lb, 6, none⟩ = some (.bool L.over) := by
  refine ⟨?_, ?_, ?_, ?_, ?_, ?_, ?_⟩ <;> (rw [h.cell]; rfl)
/-- one cell is stored, not the row's -/
theorem WInv.seti {B db m lb : Nat} {s : DS} {L L' : LS} {v : Value} {w : World} (h : WInv B db m lb s L v w) (i : Nat) (x : Value) (hc : (lcells db L v).setIfInBounds i x = lcells db L' v) (hr : L'.recs = L.recs) : WStep B db m lb v w s L' (w.setCell ⟨lb, i, none⟩ x) := by
  have kp : ∀ j, j ≠ lb → (w.setCell ⟨lb, i, none⟩ x).heap[j]? = w.heap[j]? := fun j hj => Below.heap_setCell _ _ _ _ hj
  have hf : Fr (WFoot db m lb v) w (w.setCell ⟨lb, i, none⟩ x) := ⟨rfl, rfl, rfl, by simp [World.setCell], fun j hj hn => kp j (fun e => hn (.inr (.inl e)))⟩
  refine ⟨v, ⟨⟨h.t.d.keep fun j hj => kp j (fun e => h.apart (.inl e) hj), tab_fr h.t.tab hf (fun h0 => by have := h.foot_B h0; have := h.t.pos; omega), h.t.pos⟩, ?_, h.l.hB, ?_⟩, fun j hj => .inl hj, hf⟩
  · rw [heap_setCell_same _ _ _ _ _ _ h.l.cells, hc]
  · rw [hr]; exact owns_kept h.l.row fun j hj => kp j (fun e => h.l.off (e ▸ hj))
set_option maxHeartbeats 400000 in
theorem begin_any (g : Int) (h : 0 ≤ g ∧ g ≤ 100000) (w : World) : Calls Tryd.prog 53 #[.int .i64 g] w fun e w' => e = .returned (.int .i64 (g * 100)) ∧ w' = w := by
  go_enter Tryd.func53, Tryd.ntmps53
  go_wp2
  go_ret
  exact ⟨rfl, rfl⟩
set_option maxHeartbeats 400000 in
theorem end_any (B db m lb : Nat) (s : DS) (L : LS) (v : Value) (x : Int) (w : World) (h : WInv B db m lb s L v w) :
    Calls Tryd.prog 57 #[.pointer (some ⟨lb, 0, none⟩), .int .i64 x] w fun e w' => e = .returned (.int .i64 x) ∧ WStep B db m lb v w s { L with over := L.over || decide (x ≠ 0) } w' := by
  have c6 := h.l.cs.2.2.2.2.2.2
  have f6 := h.l.free 6
  have hlt := h.l.lt
  cases ho : L.over
  · rw [ho] at c6
    by_cases hx : x = 0
    · subst hx
      have HP := Lib.hid (h.seti (L' := { L with over := false || decide ((0 : Int) ≠ 0) }) 6 (.bool false) rfl rfl)
      clear h ho
      go_enter Tryd.func57, Tryd.ntmps57
      go_wp2
      go_ret
      exact ⟨rfl, HP.out⟩
    · have HP := Lib.hid (h.seti (L' := { L with over := false || decide (x ≠ 0) }) 6 (.bool true) (by rw [decide_eq_true hx]; rfl) rfl)
      have hxb : (x != 0) = true := by simpa using hx
      clear h ho
      go_enter Tryd.func57, Tryd.ntmps57
      go_wp2
      go_ret
      exact ⟨rfl, HP.out⟩
  · rw [ho] at c6
    have HP := Lib.hid (h.seti (L' := { L with over := true || decide (x ≠ 0) }) 6 (.bool true) rfl rfl)
    clear h ho
    go_enter Tryd.func57, Tryd.ntmps57
    go_wp2
    go_ret
    exact ⟨rfl, HP.out⟩
/-- a generation's beginning is laid -/
def layE (s : DS) (g : Int) (t : ByteArray) : Int := if appE s (g * 100) (frm t) ≠ 0 then appE s (g * 100) (frm t) else synE (appS s (g * 100) (frm t)) (g * 100)
def layS' (s : DS) (g : Int) (t : ByteArray) : DS := if appE s (g * 100) (frm t) ≠ 0 then appS s (g * 100) (frm t) else synS (appS s (g * 100) (frm t)) (g * 100)
set_option maxHeartbeats 1000000 in
theorem lay_any (B db m : Nat) (s : DS) (k : Nat) (g : Int) (t : ByteArray) (w : World) (h : DT B db m s w) (hO : Okk s k) (hk : k ≤ 900000) (hg : 0 ≤ g ∧ g ≤ 100000) (ht : t.size ≤ 65536) :
    Calls Tryd.prog 60 #[.pointer (some ⟨db, 0, none⟩), .int .i64 g, .string t] w fun e w' => e = .returned (.int .i64 (layE s g t)) ∧ DStep B db m w (layS' s g t) w' := by
  have HT := Lib.hid h
  have HO := Lib.hid hO
  have hfs := frm_size t
  obtain ⟨F, hF⟩ : ∃ F, frm t = F := ⟨_, rfl⟩
  have CF := fun W hW => fOf_any t ht W hW
  have HPost : Hid (layE s g t = (if appE s (g * 100) F ≠ 0 then appE s (g * 100) F else synE (appS s (g * 100) F) (g * 100)) ∧ layS' s g t = (if appE s (g * 100) F ≠ 0 then appS s (g * 100) F else synS (appS s (g * 100) F) (g * 100))) := Lib.hid ⟨by rw [layE, hF], by rw [layS', hF]⟩
  rw [hF] at hfs CF
  have CF := Lib.hid CF
  clear h hO hF
  go_enter Tryd.func60, Tryd.ntmps60
  go_upto_region 2 with (go_at_call 20; refine Calls.mono (CF.out _ (Lib.hid HT.out.tab)) ?_; rintro e w1 ⟨rfl, hb1⟩)
  have HT1 := Lib.hid (HT.out.low hb1)
  have HB1 := Lib.hid hb1
  have hO1 := HO.out.app (g * 100) F
  obtain ⟨E, hE⟩ : ∃ E, appE s (g * 100) F = E := ⟨_, rfl⟩
  obtain ⟨s1, hs1⟩ : ∃ s1, appS s (g * 100) F = s1 := ⟨_, rfl⟩
  have CA := append_any B db m s (g * 100) F w1 HT1.out.d (HO.out.bd (by omega)) (by omega)
  have HPost := HPost.out
  rw [hE, hs1] at CA HPost
  rw [hs1] at hO1
  have HO1 := Lib.hid hO1
  have CA := Lib.hid CA
  have HPost := Lib.hid HPost
  clear hb1 hO1 hE hs1
  go_upto_region 5 with (first | (go_at_call 53; refine (begin_any g hg _).mono ?_; rintro e w2 ⟨rfl, rfl⟩) | (go_at_call 58; refine CA.out.mono ?_; rintro e w2 ⟨rfl, hs2⟩))
  have HS2 := Lib.hid hs2
  clear hs2
  by_cases hE0 : E = 0
  · subst hE0
    have CS := Lib.hid (sync_any B db m s1 (g * 100) w2 HS2.out.1 (HO1.out.bd (by omega)))
    go_wp2_with (first | (go_at_call 53; refine (begin_any g hg _).mono ?_; rintro e w3 ⟨rfl, rfl⟩) | (go_at_call 59; refine CS.out.mono ?_; rintro e w3 ⟨rfl, hs3⟩))
    go_ret
    rw [HPost.out.1, HPost.out.2]
    exact ⟨rfl, DStep.from' (Fr.of_below HB1.out) (DStep.from' HS2.out.2 hs3)⟩
  · have HP1 := Lib.hid (HPost.out.1.trans (if_pos hE0))
    have HP2 := Lib.hid (HPost.out.2.trans (if_pos hE0))
    have hE1 : (E != 0) = true := by simpa using hE0
    clear HPost
    go_wp2_with (fail)
    go_ret
    rw [HP1.out, HP2.out]
    exact ⟨rfl, DStep.from' (Fr.of_below HB1.out) HS2.out⟩
set_option maxHeartbeats 400000 in
theorem Text_any (B db m lb : Nat) (s : DS) (L : LS) (v : Value) (w : World) (h : WInv B db m lb s L v w) : Calls Tryd.prog 36 #[.pointer (some ⟨lb, 0, none⟩)] w fun e w' => e = .returned (.string L.text) ∧ w' = w := by
  have c := h.l.cs.2.2.1
  have hlt := h.l.lt
  clear h
  go_enter Tryd.func36, Tryd.ntmps36
  go_wp2
  go_ret
  exact ⟨rfl, rfl⟩
set_option maxHeartbeats 400000 in
theorem Text_nil (w : World) : Calls Tryd.prog 36 #[.pointer none] w fun e w' => e = .returned (.string ⟨#[]⟩) ∧ w' = w := by
  go_enter Tryd.func36, Tryd.ntmps36
  go_wp2
  go_ret
  exact ⟨rfl, rfl⟩
set_option maxHeartbeats 400000 in
theorem Generation_any (B db m lb : Nat) (s : DS) (L : LS) (v : Value) (w : World) (h : WInv B db m lb s L v w) : Calls Tryd.prog 38 #[.pointer (some ⟨lb, 0, none⟩)] w fun e w' => e = .returned (.int .i64 L.gen) ∧ w' = w := by
  have c := h.l.cs.2.1
  have hlt := h.l.lt
  clear h
  go_enter Tryd.func38, Tryd.ntmps38
  go_wp2
  go_ret
  exact ⟨rfl, rfl⟩
set_option maxHeartbeats 400000 in
theorem Generation_nil (w : World) : Calls Tryd.prog 38 #[.pointer none] w fun e w' => e = .returned (.int .i64 0) ∧ w' = w := by
  go_enter Tryd.func38, Tryd.ntmps38
  go_wp2
  go_ret
  exact ⟨rfl, rfl⟩
set_option maxHeartbeats 400000 in
theorem Pending_any (B db m lb : Nat) (s : DS) (L : LS) (v : Value) (w : World) (h : WInv B db m lb s L v w) : Calls Tryd.prog 39 #[.pointer (some ⟨lb, 0, none⟩)] w fun e w' => e = .returned (.int .i64 L.pend) ∧ w' = w := by
  have c := h.l.cs.2.2.2.2.2.1
  have hlt := h.l.lt
  clear h
  go_enter Tryd.func39, Tryd.ntmps39
  go_wp2
  go_ret
  exact ⟨rfl, rfl⟩
set_option maxHeartbeats 400000 in
theorem Pending_nil (w : World) : Calls Tryd.prog 39 #[.pointer none] w fun e w' => e = .returned (.int .i64 0) ∧ w' = w := by
  go_enter Tryd.func39, Tryd.ntmps39
  go_wp2
  go_ret
  exact ⟨rfl, rfl⟩
set_option maxHeartbeats 400000 in
theorem wAppend_nil (t : ByteArray) (w : World) : Calls Tryd.prog 33 #[.pointer none, .string t] w fun e w' => e = .returned (.int .i64 2) ∧ w' = w := by
  go_enter Tryd.func33, Tryd.ntmps33
  go_wp2
  go_ret
  exact ⟨rfl, rfl⟩
set_option maxHeartbeats 400000 in
theorem wSync_nil (w : World) : Calls Tryd.prog 34 #[.pointer none] w fun e w' => e = .returned (.int .i64 2) ∧ w' = w := by
  go_enter Tryd.func34, Tryd.ntmps34
  go_wp2
  go_ret
  exact ⟨rfl, rfl⟩
set_option maxHeartbeats 400000 in
theorem wRenew_nil (t : ByteArray) (w : World) : Calls Tryd.prog 35 #[.pointer none, .string t] w fun e w' => e = .returned (.int .i64 2) ∧ w' = w := by
  go_enter Tryd.func35, Tryd.ntmps35
  go_wp2
  go_ret
  exact ⟨rfl, rfl⟩
set_option maxHeartbeats 400000 in
theorem Records_nil (w : World) : Calls Tryd.prog 37 #[.pointer none] w fun e w' => e = .returned (.slice none 0 0) ∧ w' = w := by
  go_enter Tryd.func37, Tryd.ntmps37
  go_wp2
  go_ret
  exact ⟨rfl, rfl⟩
set_option maxHeartbeats 400000 in
theorem Format_nil (w : World) : Calls Tryd.prog 40 #[.pointer none] w fun e w' => e = .returned (.int .i64 2) ∧ w' = w := by
  go_enter Tryd.func40, Tryd.ntmps40
  go_wp2
  go_ret
  exact ⟨rfl, rfl⟩
set_option maxHeartbeats 400000 in
theorem Open_nil (w : World) : Calls Tryd.prog 32 #[.pointer none] w fun e w' => e = .returned (.tuple #[.pointer none, .int .i64 2]) ∧ w' = w := by
  go_enter Tryd.func32, Tryd.ntmps32
  go_wp2
  go_ret2
  exact ⟨rfl, rfl⟩
theorem Format_off (B db m : Nat) (s : DS) (w : World) (h : DInv B db m s w) (ho : s.off = true) : Calls Tryd.prog 40 #[.pointer (some ⟨db, 0, none⟩)] w fun e w' => e = .returned (.int .i64 6) ∧ w' = w := by
  have CO := on_any B db m s w h
  rw [ho] at CO
  have CO := Lib.hid CO
  have hlt := h.lt
  clear h ho
  go_enter Tryd.func40, Tryd.ntmps40
  go_wp2_with (go_at_call 43; refine CO.out.mono ?_; rintro e w1 ⟨rfl, rfl⟩)
  go_ret
  exact ⟨rfl, rfl⟩
theorem Open_off (B db m : Nat) (s : DS) (w : World) (h : DInv B db m s w) (ho : s.off = true) : Calls Tryd.prog 32 #[.pointer (some ⟨db, 0, none⟩)] w fun e w' => e = .returned (.tuple #[.pointer none, .int .i64 6]) ∧ w' = w := by
  have CO := on_any B db m s w h
  rw [ho] at CO
  have CO := Lib.hid CO
  have hlt := h.lt
  clear h ho
  go_enter Tryd.func32, Tryd.ntmps32
  go_wp2_with (go_at_call 43; refine CO.out.mono ?_; rintro e w1 ⟨rfl, rfl⟩)
  go_ret2
  exact ⟨rfl, rfl⟩
/-- Format of a disk without files -/
theorem Format_new (B db m : Nat) (s : DS) (k : Nat) (w : World) (h : DT B db m s w) (hO : Okk s k) (hk : k ≤ 900000) (ho : s.off = false) (hf : s.keys = []) :
    Calls Tryd.prog 40 #[.pointer (some ⟨db, 0, none⟩)] w fun e w' => e = .returned (.int .i64 (layE s 1 ⟨#[]⟩)) ∧ DStep B db m w (layS' s 1 ⟨#[]⟩) w' := by
  have CO := on_any B db m s w h.d
  rw [ho] at CO
  have CO := Lib.hid CO
  have hlt := h.d.lt
  have CL := list_any B db m s w h.d hO.nd hO.rng (Nat.le_trans hO.len (by decide))
  rw [hf] at CL
  have CL := Lib.hid CL
  have HT := Lib.hid h
  have HO := Lib.hid hO
  clear h ho hO hf
  go_enter Tryd.func40, Tryd.ntmps40
  go_upto_block 0 with (first | (go_at_call 43; refine CO.out.mono ?_; rintro e w1 ⟨rfl, rfl⟩) | (go_at_call 52; refine CL.out.mono ?_; rintro e w1 ⟨lv, rfl, hown, hb1⟩; obtain ⟨LA, lc, rfl⟩ := owns_shape hown; clear hown))
  have HB1 := Lib.hid hb1
  have CY := Lib.hid (lay_any B db m s k 1 ⟨#[]⟩ w1 (HT.out.low hb1) HO.out hk ⟨by decide, by decide⟩ (by decide))
  clear hb1
  go_wp2_with (fail)
  go_loopw [14] (fun i wr => i = .int .i64 0 ∧ wr = w1) (fun _ _ => 0)
  case atStart => exact ⟨rfl, rfl⟩
  case round =>
    obtain ⟨rfl, rfl⟩ := hrel
    go_wp2_with (go_at_call 60; refine CY.out.mono ?_; rintro e w2 ⟨rfl, hs2⟩)
    go_ret
    exact ⟨rfl, DStep.from' (Fr.of_below HB1.out) hs2⟩
end Go.Proofs.YtdmjbdecemajpaaDoor.D
