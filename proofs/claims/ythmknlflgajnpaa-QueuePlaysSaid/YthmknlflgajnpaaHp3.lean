/- The heap: the pile's methods through the interface; up. -/
import Derived.Test.YthmknlflgajnpaaHp2
namespace Go.Proofs.Ythmknlflgajnpaa
set_option linter.unusedVariables false
set_option linter.unusedSimpArgs false
open Go.RowKit
theorem row_less : ((Try.prog.info? 67).bind fun i => (i.methods.find? (·.name == "Less")).map fun m => (m.path.size, m.func)) = some (0, some (59, false)) := by kernel_rfl
theorem row_swap : ((Try.prog.info? 67).bind fun i => (i.methods.find? (·.name == "Swap")).map fun m => (m.path.size, m.func)) = some (0, some (60, false)) := by kernel_rfl
theorem mrow_len : ((Try.prog.info? 67).bind fun i => (i.methods.find? (·.name == "Len")).map fun m => (m.path.size, m.func)) = some (0, some (58, false)) := by kernel_rfl
theorem info67 {nm : String} {f : FuncId} (h : ((Try.prog.info? 67).bind fun i => (i.methods.find? (·.name == nm)).map fun m => (m.path.size, m.func)) = some (0, some (f, false))) (w : World) : ∃ I m, (typeInfo 67).run Try.prog w = .ok I w ∧ I.methods.find? (·.name == nm) = some m ∧ m.path = #[] ∧ m.func = some (f, false) := by
  obtain ⟨I, h1, h2⟩ := Option.bind_eq_some_iff.1 h
  obtain ⟨m, h3, h4⟩ := Option.map_eq_some_iff.1 h2
  simp only [Prod.mk.injEq] at h4
  exact ⟨I, m, by unfold typeInfo; simp [h1], h3, Array.eq_empty_of_size_eq_zero h4.1, h4.2⟩
theorem ld58 (qb : Nat) (v : Value) (w : World) (h : w.cell? ⟨qb, 7, none⟩ = some v) : (loadVar 58 ⟨qb, 7, none⟩).run Try.prog w = .ok v w := by
  go_simp
theorem rec67 (qb : Nat) (v : Value) (nm : String) (w : World) (h : w.cell? ⟨qb, 7, none⟩ = some v) (hc : (Builtin.ssaWrapNilChk_ #[67] 67 #[.pointer (some ⟨qb, 7, none⟩), strVal "", strVal nm]).run Try.prog w = .ok (.pointer (some ⟨qb, 7, none⟩)) w) :
    (receiverAt 67 (.val (.pointer (some ⟨qb, 7, none⟩))) false (some nm)).run Try.prog w = .ok v w := by
  unfold receiverAt
  simp only [Sem.run_bind, Sem.run_pure, run_underlying Try.underlying67, Result.andThen_ok, Place.get, hc, asAddr, ld58 qb v w h]
theorem m_val (qb : Nat) (v : Value) (w : World) (h : w.cell? ⟨qb, 7, none⟩ = some v) (nm : String) (f : FuncId) (I : TypeInfo) (m : Method) (hI : (typeInfo 67).run Try.prog w = .ok I w) (hm : I.methods.find? (·.name == nm) = some m) (hp : m.path = #[]) (hf : m.func = some (f, false)) (hc : ∀ s : String, (Builtin.ssaWrapNilChk_ #[67] 67 #[.pointer (some ⟨qb, 7, none⟩), strVal "", strVal s]).run Try.prog w = .ok (.pointer (some ⟨qb, 7, none⟩)) w) :
    (method 206 67 (.pointer (some ⟨qb, 7, none⟩)) nm).run Try.prog w = .ok (f, v) w := by
  unfold method
  simp only [Sem.run_bind, Sem.run_pure, hI, Result.andThen_ok, hm, hp, hf, follow, Array.isEmpty_empty, if_true, rec67 qb v _ w h (hc _)]
theorem m_less (qb : Nat) (v : Value) (w : World) (h : w.cell? ⟨qb, 7, none⟩ = some v) : (method 206 67 (.pointer (some ⟨qb, 7, none⟩)) "Less").run Try.prog w = .ok (59, v) w := by
  obtain ⟨I, m, h1, h2, h3, h4⟩ := info67 row_less w
  exact m_val qb v w h "Less" 59 I m h1 h2 h3 h4 (fun _ => by kernel_rfl)
theorem m_swap (qb : Nat) (v : Value) (w : World) (h : w.cell? ⟨qb, 7, none⟩ = some v) : (method 206 67 (.pointer (some ⟨qb, 7, none⟩)) "Swap").run Try.prog w = .ok (60, v) w := by
  obtain ⟨I, m, h1, h2, h3, h4⟩ := info67 row_swap w
  exact m_val qb v w h "Swap" 60 I m h1 h2 h3 h4 (fun _ => by kernel_rfl)
theorem m_len (qb : Nat) (v : Value) (w : World) (h : w.cell? ⟨qb, 7, none⟩ = some v) : (method 206 67 (.pointer (some ⟨qb, 7, none⟩)) "Len").run Try.prog w = .ok (58, v) w := by
  obtain ⟨I, m, h1, h2, h3, h4⟩ := info67 mrow_len w
  exact m_val qb v w h "Len" 58 I m h1 h2 h3 h4 (fun _ => by kernel_rfl)
theorem m_push (qb : Nat) (w : World) : (method 206 67 (.pointer (some ⟨qb, 7, none⟩)) "Push").run Try.prog w = .ok (69, .pointer (some ⟨qb, 7, none⟩)) w := by kernel_rfl
theorem m_pop (qb : Nat) (w : World) : (method 206 67 (.pointer (some ⟨qb, 7, none⟩)) "Pop").run Try.prog w = .ok (68, .pointer (some ⟨qb, 7, none⟩)) w := by kernel_rfl
theorem nil_ahead (nm : String) (h : nm = "Less" ∨ nm = "Swap" ∨ nm = "Len" ∨ nm = "Push" ∨ nm = "Pop") (a : Addr) (w : World) : (nilAhead 206 67 (.pointer (some a)) nm).run Try.prog w = .ok (some false) w := by
  rcases h with rfl | rfl | rfl | rfl | rfl <;> kernel_rfl
/-- a queue's block, and a pile's: what the heap's functions keep -/
structure HP (w0 : World) (qb : Nat) (cs : Array Value) (g cap : Nat) (p : List Item) (w : World) : Prop where
  q : w.heap[qb]? = some (.cells cs 60 (0, 0))
  v : cs[7]? = some (.slice (some ⟨g, 0, none⟩) p.length cap)
  pr : PR w g cap p
  gr : w0.grownBy w (some g)
theorem HP.cell {w0 w : World} {qb g cap : Nat} {cs : Array Value} {p : List Item} (h : HP w0 qb cs g cap p w) : w.cell? ⟨qb, 7, none⟩ = some (.slice (some ⟨g, 0, none⟩) p.length cap) := by simp [World.cell?, h.q, h.v]
theorem HP.ne {w0 w : World} {qb g cap : Nat} {cs : Array Value} {p : List Item} (h : HP w0 qb cs g cap p w) : qb ≠ g := by
  rintro rfl
  obtain ⟨⟨r, h1, _⟩, _, _⟩ := h.pr
  have h2 := h.q
  rw [h1] at h2
  injection h2 with h2
  injection h2 with _ h2 _
  exact absurd h2 (by decide)
theorem HP.below {w0 w w1 : World} {qb g cap : Nat} {cs : Array Value} {p : List Item} (h : HP w0 qb cs g cap p w) (hb : Below w.heap.size w w1) : HP w0 qb cs g cap p w1 :=
  ⟨(hb.block qb (Array.getElem?_eq_some_iff.1 h.q).1).trans h.q, h.v, h.pr.below hb, h.gr.trans ⟨hb.os, hb.tape, hb.output, hb.size, fun j hj _ => hb.block j hj⟩⟩
theorem HP.swap {w0 w w1 : World} {qb g cap : Nat} {cs : Array Value} {p p1 : List Item} (h : HP w0 qb cs g cap p w) (hl : p1.length = p.length) (hp : PR w1 g cap p1) (hg : w.grownBy w1 (some g)) : HP w0 qb cs g cap p1 w1 :=
  ⟨(hg.block qb (Array.getElem?_eq_some_iff.1 h.q).1 (fun e => h.ne (by injection e))).trans h.q, by rw [hl]; exact h.v, hp, h.gr.trans hg⟩
def swapL (p : List Item) (i j : Nat) : List Item := match p[i]?, p[j]? with
  | some x, some y => (p.set i y).set j x
  | _, _ => p
theorem swapL_eq {p : List Item} {i j : Nat} {x y : Item} (hi : p[i]? = some x) (hj : p[j]? = some y) : swapL p i j = (p.set i y).set j x := by unfold swapL; rw [hi, hj]
theorem swapL_len (p : List Item) (i j : Nat) : (swapL p i j).length = p.length := by
  unfold swapL; split
  · simp
  · rfl
def lessAt (p : List Item) (i j : Nat) : Bool := match p[i]?, p[j]? with
  | some x, some y => lessB x y
  | _, _ => false
theorem lessAt_eq {p : List Item} {i j : Nat} {x y : Item} (hi : p[i]? = some x) (hj : p[j]? = some y) : lessAt p i j = lessB x y := by unfold lessAt; rw [hi, hj]
/-- up: an item rises while it is ahead of the one above it -/
def upL (p : List Item) (j : Nat) : List Item :=
  if h : j = 0 then p
  else if lessAt p j ((j - 1) / 2) = true then upL (swapL p ((j - 1) / 2) j) ((j - 1) / 2) else p
  termination_by j
  decreasing_by omega
theorem upL_zero (p : List Item) : upL p 0 = p := by unfold upL; simp
theorem upL_stop (p : List Item) (j : Nat) (h : lessAt p j ((j - 1) / 2) = false) : upL p j = p := by unfold upL; simp [h]
theorem upL_go (p : List Item) (j : Nat) (h0 : j ≠ 0) (h : lessAt p j ((j - 1) / 2) = true) : upL p j = upL (swapL p ((j - 1) / 2) j) ((j - 1) / 2) := by
  rw [upL, dif_neg h0, if_pos h]
set_option maxRecDepth 100000 in
set_option maxHeartbeats 4000000 in
theorem up_any (w0 : World) (qb g cap : Nat) (cs : Array Value) (p : List Item) (j : Nat) (hj : j < p.length) (hl : p.length ≤ 1000000) (w : World) (hp : HP w0 qb cs g cap p w) :
    Calls Try.prog 40 #[.iface 67 (.pointer (some ⟨qb, 7, none⟩)), .int .i64 j] w fun e w' => e = .returned (.tuple #[]) ∧ HP w0 qb cs g cap (upL p j) w' := by
  have HP0 := Lib.hid hp
  clear hp
  go_enter Try.func40, Try.ntmps40
  go_wp2
  go_loopw [1] (fun i wr => ∃ (k : Nat) (q : List Item), k < q.length ∧ q.length ≤ 1000000 ∧ i = .int .i64 k ∧ Hid (HP w0 qb cs g cap q wr ∧ upL p j = upL q k)) (fun i _ => (intOf i).toNat)
  case atStart => exact ⟨j, p, hj, hl, rfl, Lib.hid ⟨HP0.out, rfl⟩⟩
  case round =>
    obtain ⟨k, q, hk, hql, rfl, H⟩ := hrel
    rcases Nat.eq_zero_or_pos k with rfl | hpos
    · have hs := upL_zero q
      have HS := Lib.hid hs
      clear hs
      go_wp2
      go_end0
      exact ⟨rfl, by rw [H.out.2, HS.out]; exact H.out.1⟩
    · obtain ⟨i, hi⟩ : ∃ i, i = (k - 1) / 2 := ⟨_, rfl⟩
      have hik : i < k := by omega
      obtain ⟨x, hx⟩ : ∃ x, q[k]? = some x := ⟨_, List.getElem?_eq_getElem hk⟩
      obtain ⟨y, hy⟩ : ∃ y, q[i]? = some y := ⟨_, List.getElem?_eq_getElem (by omega)⟩
      have e1 : ((k : Int) - 1).tdiv 2 = (i : Int) := by rw [Int.tdiv_eq_ediv_of_nonneg (by omega)]; omega
      have e2 : ((k : Int) - 1) / 2 = (i : Int) := by omega
      have e3 : ((i : Int) == (k : Int)) = false := by simp; omega
      have m1 := m_less qb _ wr H.out.1.cell
      have C1 := Lib.hid (pless_any q g cap k i x y hx hy wr H.out.1.pr)
      have hle := lessAt_eq hx hy
      have HI := Lib.hid hi
      cases hlb : lessB x y
      · rw [hlb] at C1 hle
        rw [hi] at hle
        have HS := Lib.hid (upL_stop q k hle)
        clear hle hlb hi hx hy
        go_wp2_with (go_at_call 59; refine C1.out.mono ?_; rintro e w1 ⟨rfl, hb⟩)
        go_end0
        exact ⟨rfl, by rw [H.out.2, HS.out]; exact H.out.1.below hb⟩
      · rw [hlb] at C1 hle
        rw [hi] at hle
        have hgo := upL_go q k (by omega) hle
        rw [← hi] at hgo
        have HS := Lib.hid hgo
        have HSW := Lib.hid (swapL_eq hy hx)
        have HX := Lib.hid hx
        have HY := Lib.hid hy
        clear hle hlb hi hx hy hgo
        go_upto_region 2 with (go_at_call 59; refine C1.out.mono ?_; rintro e w1 ⟨rfl, hb⟩)
        have h1 := H.out.1.below hb
        have m2 := m_swap qb _ w1 h1.cell
        have C2 := Lib.hid (pswap_any q g cap i k y x HY.out HX.out w1 h1.pr)
        have H1 := Lib.hid h1
        clear hb h1 m1
        go_wp2_with (go_at_call 60; refine C2.out.mono ?_; rintro e w2 ⟨rfl, hp2, hg2⟩)
        have H2 := Lib.hid (H1.out.swap (by simp) hp2 hg2)
        clear hp2 hg2
        go_roundw
        case rel =>
          refine ⟨i, _, ?_, ?_, rfl, Lib.hid ⟨H2.out, ?_⟩⟩
          · simp; omega
          · simp; omega
          · rw [H.out.2, HS.out, HSW.out]
        case measure => simp [intOf]; omega
end Go.Proofs.Ythmknlflgajnpaa
