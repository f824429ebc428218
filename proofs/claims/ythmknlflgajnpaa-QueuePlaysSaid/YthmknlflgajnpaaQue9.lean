/- The walk of QueueOnce. -/
import Derived.Test.YthmknlflgajnpaaQue8
import Derived.Deep.CutRange
namespace Go.Proofs.Ythmknlflgajnpaa
open Go.RowKit
/-- an act of the law -/
structure Act7 where
  kind : Int
  ref : Ref
  n : Int
def ac (x : Act7) : List Value := [.int .i64 x.kind, .int .i64 x.ref.kind, .string x.ref.name, .int .i64 x.n]
theorem act_at : ∀ (l : List Act7) (k : Nat) (h : k < l.length), (l.flatMap ac)[k * 4]? = some (.int .i64 l[k].kind) ∧ (l.flatMap ac)[k * 4 + 1]? = some (.int .i64 l[k].ref.kind) ∧ (l.flatMap ac)[k * 4 + 2]? = some (.string l[k].ref.name) ∧ (l.flatMap ac)[k * 4 + 3]? = some (.int .i64 l[k].n)
  | a :: l, 0, _ => ⟨rfl, rfl, rfl, rfl⟩
  | a :: l, k + 1, h => by
    have := act_at l k (by simpa using h)
    have e : ∀ i, ((a :: l).flatMap ac)[(k + 1) * 4 + i]? = (l.flatMap ac)[k * 4 + i]? := fun i => by
      rw [List.flatMap_cons, List.getElem?_append_right (by simp [ac]; omega)]
      congr 1
      simp [ac]; omega
    have e0 := e 0
    simp only [Nat.add_zero] at e0
    simp only [e, e0, List.getElem_cons_succ]
    exact this
theorem add_off (ad : Addr) (m j : Nat) (hj : 0 < j) : ad.add (m + j) = ⟨(ad.add m).block, (ad.add m).off + j, none⟩ := by
  unfold Addr.add
  rw [if_neg (by omega)]
  by_cases h : m = 0
  · rw [if_pos h, h, Nat.zero_add]
  · rw [if_neg h, Nat.add_assoc]
theorem Inv.base_le {B B' qb : Nat} {s : St} {d : QD} {w : World} (h : Inv B' qb s d w) (hb : B ≤ B') : Inv B qb s d w :=
  ⟨h.cells, Nat.le_trans hb h.hB, owns_base_le h.line hb, owns_base_le h.pile hb, h.maps, fun i => Nat.le_trans hb (h.mB i), h.apart⟩
/-- an owned row of names that shares nothing with the queue -/
structure RowAt (B qb : Nat) (d : QD) (w : World) (v : Value) (l : List Ref) : Prop where
  own : w.ownsRow B 30 2 v l.length (l.flatMap rc)
  off : ∀ j, v.ownBlock = some j → ¬ Foot qb d j
theorem owns_lt {w : World} {B e size n : Nat} {v : Value} {xs : List Value} (h : w.ownsRow B e size v n xs) {j : Nat} (hj : v.ownBlock = some j) : j < w.heap.size := by
  obtain ⟨c, hc⟩ := owns_block h hj
  exact (Array.getElem?_eq_some_iff.1 hc).1
theorem RowAt.below {B qb : Nat} {d : QD} {w w1 : World} {v : Value} {l : List Ref} (h : RowAt B qb d w v l) (hb : Below w.heap.size w w1) : RowAt B qb d w1 v l := ⟨G.owns_below h.own hb, h.off⟩
theorem RowAt.step {B qb : Nat} {d d' : QD} {w w' : World} {v : Value} {l : List Ref} (h : RowAt B qb d w v l) (hk : ∀ A, A < w.heap.size → ¬ Foot qb d A → ¬ Foot qb d' A ∧ w'.heap[A]? = w.heap[A]?) : RowAt B qb d' w' v l :=
  ⟨owns_kept h.own fun j hj => (hk j (owns_lt h.own hj) (h.off j hj)).2, fun j hj => (hk j (owns_lt h.own hj) (h.off j hj)).1⟩
theorem RowAt.new {B qb : Nat} {s : St} {d : QD} {w0 w w1 : World} {v : Value} {l : List Ref} (hL : Live w0 qb s d w) (hB : B ≤ w.heap.size) (h : w1.ownsRow w.heap.size 30 2 v l.length (l.flatMap rc)) : RowAt B qb d w1 v l :=
  ⟨owns_base_le h hB, fun j hj hf => by have := G.owns_base h j hj; have := hL.1.foot_lt hf; omega⟩
/-- what a round keeps -/
structure Play (w0 : World) (qb : Nat) (s : St) (d : QD) (bl dl : List Ref) (b u : Value) (k : Nat) (w : World) : Prop where
  live : Live w0 qb s d w
  rb : RowAt w0.heap.size qb d w b bl
  ru : RowAt w0.heap.size qb d w u dl
  apart : ∀ j, b.ownBlock = some j → u.ownBlock ≠ some j
  good : Good s bl dl k
def Plays (w0 : World) (qb : Nat) (b u : Value) (k : Nat) (w : World) : Prop := ∃ s d bl dl, Play w0 qb s d bl dl b u k w
/-- a block that is none of the queue's holds an object -/
structure AtO (qb : Nat) (d : QD) (w : World) (A : Nat) (o : Obj) : Prop where
  lt : A < w.heap.size
  off : ¬ Foot qb d A
  is : w.heap[A]? = some o
theorem AtO.step {qb : Nat} {d d' : QD} {w w' : World} {A : Nat} {o : Obj} (h : AtO qb d w A o) (hs : w.heap.size ≤ w'.heap.size) (hk : ∀ A, A < w.heap.size → ¬ Foot qb d A → ¬ Foot qb d' A ∧ w'.heap[A]? = w.heap[A]?) : AtO qb d' w' A o :=
  ⟨Nat.lt_of_lt_of_le h.lt hs, (hk A h.lt h.off).1, (hk A h.lt h.off).2.trans h.is⟩
theorem AtO.below {qb : Nat} {d : QD} {w w1 : World} {A : Nat} {o : Obj} (h : AtO qb d w A o) (hb : Below w.heap.size w w1) : AtO qb d w1 A o := ⟨Nat.lt_of_lt_of_le h.lt hb.size, h.off, (hb.block A h.lt).trans h.is⟩
theorem AtO.new {B qb : Nat} {s : St} {d : QD} {w : World} (h : Inv B qb s d w) (o : Obj) : AtO qb d (w.alloc o) w.heap.size o :=
  ⟨by simp, fun hf => Nat.lt_irrefl _ (h.foot_lt hf), G.heap_new _ _⟩
/-- the box of an act -/
abbrev actBox (x : Act7) : Obj := .cells #[.int .i64 x.kind, .int .i64 x.ref.kind, .string x.ref.name, .int .i64 x.n] 32 (0, 0)
theorem AtO.act {qb : Nat} {d : QD} {w : World} {A : Nat} {x : Act7} (h : AtO qb d w A (actBox x)) : w.cell? ⟨A, 1, none⟩ = some (.int .i64 x.ref.kind) ∧ w.cell? ⟨A, 2, none⟩ = some (.string x.ref.name) := by
  constructor <;> simp [World.cell?, h.is]
/-- the play, apart from what is good of it -/
structure Bare (w0 : World) (qb : Nat) (s : St) (d : QD) (bl dl : List Ref) (b u : Value) (w : World) : Prop where
  live : Live w0 qb s d w
  rb : RowAt w0.heap.size qb d w b bl
  ru : RowAt w0.heap.size qb d w u dl
  apart : ∀ j, b.ownBlock = some j → u.ownBlock ≠ some j
theorem Play.bare {w0 : World} {qb : Nat} {s : St} {d : QD} {bl dl : List Ref} {b u : Value} {k : Nat} {w : World} (h : Play w0 qb s d bl dl b u k w) : Bare w0 qb s d bl dl b u w := ⟨h.live, h.rb, h.ru, h.apart⟩
theorem Bare.play {w0 : World} {qb : Nat} {s : St} {d : QD} {bl dl : List Ref} {b u : Value} {k : Nat} {w : World} (h : Bare w0 qb s d bl dl b u w) (g : Good s bl dl k) : Play w0 qb s d bl dl b u k w := ⟨h.live, h.rb, h.ru, h.apart, g⟩
theorem Bare.below {w0 : World} {qb : Nat} {s : St} {d : QD} {bl dl : List Ref} {b u : Value} {w w1 : World} (h : Bare w0 qb s d bl dl b u w) (hb : Below w.heap.size w w1) : Bare w0 qb s d bl dl b u w1 := ⟨h.live.below hb, h.rb.below hb, h.ru.below hb, h.apart⟩
theorem Bare.alloc {w0 : World} {qb : Nat} {s : St} {d : QD} {bl dl : List Ref} {b u : Value} {w : World} (h : Bare w0 qb s d bl dl b u w) (o : Obj) : Bare w0 qb s d bl dl b u (w.alloc o) := h.below ((Below.refl _ _).alloc (Nat.le_refl _) _)
theorem Bare.step {w0 : World} {qb : Nat} {s s' : St} {d : QD} {bl dl : List Ref} {b u : Value} {w w' : World} (h : Bare w0 qb s d bl dl b u w) (k : Step w0.heap.size qb d w s' w') :
    ∃ d', Bare w0 qb s' d' bl dl b u w' ∧ ∀ A o, AtO qb d w A o → AtO qb d' w' A o := by
  obtain ⟨d', h1, h2, _, h3⟩ := h.live.step k
  exact ⟨d', ⟨h1, h.rb.step h3, h.ru.step h3, h.apart⟩, fun A o hA => hA.step h2 h3⟩
/-- the row of what is due has turned -/
theorem Bare.due {w0 : World} {qb : Nat} {s : St} {d : QD} {bl dl : List Ref} {b u : Value} {w : World} (h : Bare w0 qb s d bl dl b u w) {w1 : World} {u1 : Value} {l1 : List Ref} (hg : w.grownBy w1 u.ownBlock)
    (hu : w1.ownsRow w0.heap.size 30 2 u1 l1.length (l1.flatMap rc)) (hx : ∀ j, u1.ownBlock = some j → u.ownBlock = some j ∨ w.heap.size ≤ j) : Bare w0 qb s d bl l1 b u1 w1 := by
  have kp : ∀ j, j < w.heap.size → u.ownBlock ≠ some j → w1.heap[j]? = w.heap[j]? := fun j hj hne => hg.block j hj (fun e => hne e.symm)
  refine ⟨⟨h.live.1.keep fun j hj => kp j (h.live.1.foot_lt hj) (fun e => h.ru.off j e hj), ?_⟩, ⟨owns_kept h.rb.own fun j hj => kp j (owns_lt h.rb.own hj) (h.apart j hj), h.rb.off⟩, ⟨hu, fun j hj hf => ?_⟩, fun j hj e => ?_⟩
  · exact G.below_grown h.live.2 h.live.2.size h.ru.own hg
  · rcases hx j hj with h1 | h1
    · exact h.ru.off j h1 hf
    · have := h.live.1.foot_lt hf; omega
  · rcases hx j e with h1 | h1
    · exact h.apart j hj h1
    · have := owns_lt h.rb.own hj; omega
theorem Bare.busy {w0 : World} {qb : Nat} {s : St} {d : QD} {bl dl : List Ref} {b u : Value} {w : World} (h : Bare w0 qb s d bl dl b u w) {w1 : World} {b1 : Value} {l1 : List Ref} (hg : w.grownBy w1 b.ownBlock)
    (hu : w1.ownsRow w0.heap.size 30 2 b1 l1.length (l1.flatMap rc)) (hx : ∀ j, b1.ownBlock = some j → b.ownBlock = some j ∨ w.heap.size ≤ j) : Bare w0 qb s d l1 dl b1 u w1 := by
  have kp : ∀ j, j < w.heap.size → b.ownBlock ≠ some j → w1.heap[j]? = w.heap[j]? := fun j hj hne => hg.block j hj (fun e => hne e.symm)
  refine ⟨⟨h.live.1.keep fun j hj => kp j (h.live.1.foot_lt hj) (fun e => h.rb.off j e hj), ?_⟩, ⟨hu, fun j hj hf => ?_⟩, ⟨owns_kept h.ru.own fun j hj => kp j (owns_lt h.ru.own hj) (fun e => h.apart j e hj), h.ru.off⟩, fun j hj e => ?_⟩
  · exact G.below_grown h.live.2 h.live.2.size h.rb.own hg
  · rcases hx j hj with h1 | h1
    · exact h.rb.off j h1 hf
    · have := h.live.1.foot_lt hf; omega
  · rcases hx j hj with h1 | h1
    · exact h.apart j h1 e
    · have := owns_lt h.ru.own e; omega
/-- a row that is new in place of one of the two -/
theorem Bare.due' {w0 : World} {qb : Nat} {s : St} {d : QD} {bl dl : List Ref} {b u : Value} {w : World} (h : Bare w0 qb s d bl dl b u w) {w1 : World} {u1 : Value} {l1 : List Ref} (hb : Below w.heap.size w w1)
    (hu : w1.ownsRow w.heap.size 30 2 u1 l1.length (l1.flatMap rc)) : Bare w0 qb s d bl l1 b u1 w1 :=
  h.due ⟨hb.os, hb.tape, hb.output, hb.size, fun j hj _ => hb.block j hj⟩ (owns_base_le hu h.live.2.size) fun j hj => .inr (G.owns_base hu j hj)
theorem Bare.busy' {w0 : World} {qb : Nat} {s : St} {d : QD} {bl dl : List Ref} {b u : Value} {w : World} (h : Bare w0 qb s d bl dl b u w) {w1 : World} {b1 : Value} {l1 : List Ref} (hb : Below w.heap.size w w1)
    (hu : w1.ownsRow w.heap.size 30 2 b1 l1.length (l1.flatMap rc)) : Bare w0 qb s d l1 dl b1 u w1 :=
  h.busy ⟨hb.os, hb.tape, hb.output, hb.size, fun j hj _ => hb.block j hj⟩ (owns_base_le hu h.live.2.size) fun j hj => .inr (G.owns_base hu j hj)
theorem wpList_append_run {P : Program} {ops : Array Oper} {rest : List Oper} {o : Oper} {a : Act} {Q : Exit → Act → World → Prop} {w : World} (hgd : o.guard = none) (s x : Operand) (t : TypeId)
    (ho : o.op = .call { callee := .builtin .append, args := #[s, x], argTypes := #[t, t] }) {v v2 v1 : Value} {w1 : World}
    (hs : a.eval s = v) (hx : a.eval x = v2) (hrun : (Builtin.append_ #[t, t] o.type #[v, v2]).run P w = .ok v1 w1) (h : wpList P ops Q rest (a.put o.dst v1) w1) : wpList P ops Q (o :: rest) a w := by
  refine wpList_plain hgd fun _ hK => ?_
  unfold Oper.wp
  simp [execOp, ho, resolve, invoke, builtin, hs, hx, hrun, Result.andThen]
  exact hK _ _ h
theorem row_app {w : World} {B : Nat} {v : Value} {l : List Ref} (r : Ref) (h : w.ownsRow B 30 2 v l.length (l.flatMap rc)) (hB : B ≤ w.heap.size) (hl : l.length ≤ 1000000) :
    ∃ g c w1, (Builtin.append_ #[28, 28] 28 #[v, .slice (some ⟨w.heap.size, 0, none⟩) 1 1]).run Try.prog (w.alloc (.cells #[.int .i64 r.kind, .string r.name] 30)) = .ok (.slice (some ⟨g, 0, none⟩) (l.length + 1) c) w1 ∧
      w1.ownsRow B 30 2 (.slice (some ⟨g, 0, none⟩) (l.length + 1) c) (l ++ [r]).length ((l ++ [r]).flatMap rc) ∧ w.grownBy w1 v.ownBlock ∧ ∀ j, (Value.slice (some ⟨g, 0, none⟩) (l.length + 1) c).ownBlock = some j → v.ownBlock = some j ∨ w.heap.size ≤ j := by
  obtain ⟨fg, fc, fw, hf⟩ := G.app_fn (P := Try.prog) 28 30 28 B 2 24 _ Try.underlying28 info30 rfl (by decide) v l.length (l.flatMap rc) (rc r) rfl (rc_one r) h hB (by unfold maxLen; omega) (by omega)
  obtain ⟨h1, h2, h3, h4⟩ := hf 0
  refine ⟨fg 0, fc 0, fw 0, h1, ?_, h3, fun j hj => ?_⟩
  · rw [List.length_append, List.flatMap_append]
    simpa using h2
  · have : fg 0 = j := by simpa [Value.ownBlock] using hj
    rw [← this]; exact h4
theorem sees {w4 W w' : World} {a b : Addr} {x y : Value} (h : Below w4.heap.size w4 W ∧ W.cell? a = some x ∧ W.cell? b = some y) (hb : Below W.heap.size W w') : Below w4.heap.size w4 w' ∧ w'.cell? a = some x ∧ w'.cell? b = some y :=
  ⟨G.bthen h.1 hb, G.cell_below hb h.2.1, G.cell_below hb h.2.2⟩
theorem hold {p : Prop} {w4 W : World} {a b : Addr} {x y : Value} (h : Below w4.heap.size w4 W ∧ W.cell? a = some x ∧ W.cell? b = some y) (k : Hid (Below w4.heap.size w4 W) → p) : p := k (Lib.hid h.1)
theorem stop_block {P : Program} {i : Nat} {c : Code} {Q : Exit → Act → World → Prop} {a : Act} {w : World} (h : Hid ((Code.block i c).wp P Q a w)) : (Code.block i c).wp P Q a w := h.out
set_option maxRecDepth 100000 in
set_option maxHeartbeats 8000000 in
theorem once_walk (A : Option Addr) (n c : Nat) (l : List Act7) (w : World) (hn : n = l.length) (h : G.HasRow w 4 (.slice A n c) n (l.flatMap ac)) :
    Calls Try.prog 3 #[.slice A n c] w fun e w' => e = .returned (.bool true) ∧ Below w.heap.size w w' := by
  have Hn := Lib.hid hn
  have HR := Lib.hid h
  clear hn h
  go_enter Try.func3, Try.ntmps3
  go_wp2_with (fail)
  refine (awake_any w).mono ?_
  rintro e w1 ⟨rfl, hb1⟩
  go_wp2_with (fail)
  refine (begin_any 2 64 _ (by decide)).mono ?_
  rintro e w2 ⟨qb, d, w3, rfl, hI, hb2, rfl⟩
  have hS : ∃ b u W, b = Value.slice (some ⟨w3.heap.size + 1, 0, none⟩) 0 0 ∧ u = Value.slice (some ⟨w3.heap.size + 1 + 1, 0, none⟩) 0 0 ∧ W = ((w3.alloc (.cells #[.int .i64 2, .int .i64 64, .int .i64 0, .slice none 0 0, .slice none 0 0, .slice none 0 0, .slice none 0 0, .slice none 0 0] 50)).alloc (.cells #[] 30)).alloc (.cells #[] 30) ∧ Play w qb (St0 2 64) d [] [] b u 0 W := by
    refine ⟨_, _, _, rfl, rfl, rfl, ?_⟩
    have hB : w.heap.size ≤ w1.heap.size := hb1.size
    have L0 : Live w qb (St0 2 64) d w3 := ⟨hI.base_le hB, G.bthen hb1 hb2⟩
    have L1 := L0.alloc (.cells #[.int .i64 2, .int .i64 64, .int .i64 0, .slice none 0 0, .slice none 0 0, .slice none 0 0, .slice none 0 0, .slice none 0 0] 50)
    have e1 : ∀ (V : World), (V.alloc (.cells #[] 30)).ownsRow V.heap.size 30 2 (.slice (some ⟨V.heap.size, 0, none⟩) 0 0) 0 [] := fun V => ⟨rfl, .inr ⟨V.heap.size, 0, #[], rfl, Nat.le_refl _, G.heap_new _ _, Nat.le_refl _, by decide, rfl, rfl⟩⟩
    have Z : ∀ (V : World) (o : Obj), (V.alloc o).heap.size = V.heap.size + 1 := fun V o => by simp
    have r1 : RowAt w.heap.size qb d _ _ [] := RowAt.new L1 (Nat.le_trans L0.2.size (by rw [Z]; omega)) (e1 _)
    have L2 := L1.alloc (.cells #[] 30)
    have r2 : RowAt w.heap.size qb d _ _ [] := RowAt.new L2 L2.2.size (e1 _)
    have L3 := L2.alloc (.cells #[] 30)
    rw [Z] at r1
    rw [Z, Z] at r2
    refine ⟨L3, r1.below ((Below.refl _ _).alloc (Nat.le_refl _) _), r2, fun j hj e => ?_, Good.start 2 64⟩
    have a1 : w3.heap.size + 1 = j := by simpa [Value.ownBlock] using hj
    have a2 : w3.heap.size + 1 + 1 = j := by simpa [Value.ownBlock] using e
    omega
  obtain ⟨b0, u0, W0, eb, eu, eW, hP⟩ := hS
  have HP := Lib.hid hP
  have Eb := Lib.hid eb
  have Eu := Lib.hid eu
  have EW := Lib.hid eW
  clear hP eb eu eW hI hb2 hb1
  go_wp2_with (fail)
  go_loopw [6, 7, 8] (fun b u i wr => ∃ k : Nat, k ≤ n ∧ k ≤ 100 ∧ i = .int .i64 k ∧ Hid (Plays w qb b u k wr)) (fun _ _ i _ => n - (intOf i).toNat)
  case atStart =>
    refine ⟨0, by omega, by omega, by go_num, Lib.hid ?_⟩
    rw [← EW.out, ← Eb.out, ← Eu.out]
    exact ⟨_, _, _, _, HP.out⟩
  case round =>
    obtain ⟨k, hk, hk1, rfl, H⟩ := hrel
    by_cases hkn : k < n
    · by_cases hk2 : k < 100
      · have hkl : k < l.length := by have := Hn.out; omega
        obtain ⟨_, A', c', hv, _, _, hcell⟩ := HR.out
        cases hv
        obtain ⟨ad, rfl, e0⟩ := hcell _ _ (act_at l k hkl).1
        obtain ⟨s, d, bl, dl, hP⟩ := H.out
        have hbw : Below w.heap.size w wr := hP.live.2
        have cc : ∀ j u, (l.flatMap ac)[j]? = some u → wr.cell? (ad.add j) = some u := fun j u hj => by
          obtain ⟨ad', ha, hc⟩ := hcell j u hj
          cases ha
          exact G.cell_below hbw hc
        obtain ⟨x, hx⟩ : ∃ x, x = l[k] := ⟨_, rfl⟩
        have e0 := cc _ _ (act_at l k hkl).1
        have e1 := cc _ _ (act_at l k hkl).2.1
        have e2 := cc _ _ (act_at l k hkl).2.2.1
        have e3 := cc _ _ (act_at l k hkl).2.2.2
        rw [← hx] at e0 e1 e2 e3
        rw [add_off _ _ _ (by decide)] at e1 e2 e3
        have HP1 := Lib.hid hP
        have Hbw := Lib.hid hbw
        clear cc hcell hP hbw hx
        by_cases hsz : (x.ref.name.size : Int) > 200
        · have hsz' : decide (200 < (x.ref.name.size : Int)) = true := decide_eq_true hsz
          go_wp2
          go_roundw
          case rel => exact ⟨k + 1, by omega, by omega, by go_num, Lib.hid ⟨_, _, _, _, HP1.out.live.alloc _, HP1.out.rb.below ((Below.refl _ _).alloc (Nat.le_refl _) _), HP1.out.ru.below ((Below.refl _ _).alloc (Nat.le_refl _) _), HP1.out.apart, HP1.out.good.skip⟩⟩
          case measure => simp [intOf]; omega
        · have hsz' : decide (200 < (x.ref.name.size : Int)) = false := decide_eq_false hsz
          go_upto_region 13 with (fail)
          go_step
          iterate 9 (first | go_values | go_skip | go_guarded | go_step | go_upon | go_back)
          go_cut [6, 7] from 26 to 143 (fun b u w' => Hid (Plays w qb b u (k + 1) w'))
          case first =>
            have BR := Lib.hid (HP1.out.bare.alloc (actBox x))
            have AX := Lib.hid (AtO.new HP1.out.live.1 (actBox x))
            have f1 := AX.out.act.1
            have f2 := AX.out.act.2
            have GD := Lib.hid HP1.out.good
            have n1 : s.line.length ≤ 1000000 := by have := HP1.out.good.l1; omega
            have n2 : bl.length ≤ 1000000 := by have := HP1.out.good.l2; omega
            have n3 : dl.length ≤ 1000000 := by have := HP1.out.good.l3; omega
            by_cases k1 : x.kind = 1
            · have k1' : (x.kind == 1) = true := by simpa using k1
              clear k1
              go_wp2_with (fail)
              refine (add_any _ qb s d x.ref _ BR.out.live.1 n1).mono ?_
              rintro e w4 ⟨rfl, hs⟩
              obtain ⟨d4, B4, t4⟩ := BR.out.step hs
              have HB4 := Lib.hid B4
              have AX4 := Lib.hid (t4 _ _ AX.out)
              have g1 := AX4.out.act.1
              have g2 := AX4.out.act.2
              clear hs B4 t4 f1 f2
              go_wp2_with (fail)
              refine (has_any u7 dl x.ref _ (Row.of_owns HB4.out.ru.own) n3).mono ?_
              rintro e w5 ⟨rfl, hb5⟩
              have HB5 := Lib.hid (HB4.out.below hb5)
              have AX5 := Lib.hid (AX4.out.below hb5)
              have p1 := AX5.out.act.1
              have p2 := AX5.out.act.2
              clear hb5 g1 g2
              by_cases hin : x.ref ∈ dl
              · have hin' : decide (x.ref ∈ dl) = true := decide_eq_true hin
                rw [hin']
                go_wp2
                go_meet
                case rel => exact Lib.hid ⟨_, _, _, _, HB5.out.play (GD.out.add x.ref _ (.inl rfl))⟩
              · have hin' : decide (x.ref ∈ dl) = false := decide_eq_false hin
                rw [hin']
                obtain ⟨g9, c9, w9, r9, o9, q9, x9⟩ := row_app x.ref HB5.out.ru.own HB5.out.live.2.size n3
                have HP9 := Lib.hid (HB5.out.due q9 o9 x9)
                have R9 := Lib.hid r9
                clear r9 o9 q9 x9
                go_wp2_with (at_builtin; refine wpList_append_run rfl (.tmp 58) (.tmp 61) 28 rfl rfl rfl R9.out ?_)
                go_meet
                case rel => exact Lib.hid ⟨_, _, _, _, HP9.out.play (GD.out.add x.ref _ (.inr rfl))⟩
            · have k1' : (x.kind == 1) = false := by simpa using k1
              clear k1
              by_cases k5 : x.kind = 5
              · have k5' : (x.kind == 5) = true := by simpa using k5
                clear k5
                rcases hs : s.line with _ | ⟨y, rest⟩
                · have hg : getR s = (.agg #[.int .i64 0, .string ⟨#[]⟩], false) := by simp only [getR, hs]
                  have hg2 : getS s = s := by simp only [getS, hs]
                  go_wp2_with (fail)
                  refine (get_is _ qb s d _ hg BR.out.live.1 n1).mono ?_
                  rintro e w4 ⟨rfl, hst⟩
                  rw [hg2] at hst
                  obtain ⟨d4, B4, t4⟩ := BR.out.step hst
                  have HB4 := Lib.hid (B4.alloc (.cells #[.int .i64 0, .string ⟨#[]⟩] 30))
                  clear hst B4 t4 f1 f2 hg hg2 hs
                  go_wp2
                  go_meet
                  case rel => exact Lib.hid ⟨_, _, _, _, HB4.out.play GD.out.skip⟩
                · have hg : getR s = (.agg #[.int .i64 y.kind, .string y.name], true) := by simp only [getR, hs]; rfl
                  obtain ⟨y1, y2, y3⟩ := GD.out.get y rest hs
                  have hy1 : decide (y ∈ bl) = false := decide_eq_false y1
                  have hy2 : decide (0 < num ((getS s).mp 1) y) = true := decide_eq_true y2
                  have Y1 := Lib.hid hy1
                  have Y2 := Lib.hid hy2
                  have GD2 := Lib.hid y3
                  clear hs y1 y2 y3 hy1 hy2
                  go_wp2_with (fail)
                  refine (get_is _ qb s d _ hg BR.out.live.1 n1).mono ?_
                  rintro e w4 ⟨rfl, hst⟩
                  obtain ⟨d4, B4, t4⟩ := BR.out.step hst
                  have HB4 := Lib.hid (B4.alloc (.cells #[.int .i64 y.kind, .string y.name] 30))
                  have AY4 := Lib.hid (At.new B4.live.1 y)
                  have hub : ∀ j, u6.ownBlock = some j → j < w4.heap.size := fun j hj => owns_lt B4.rb.own hj
                  have HU := Lib.hid hub
                  clear hub
                  have v1 := AY4.out.cell0
                  have v2 := AY4.out.cell1
                  clear hst B4 t4 f1 f2 hg
                  go_wp2_with (fail)
                  refine (has_any u6 bl y _ (Row.of_owns HB4.out.rb.own) n2).mono ?_
                  rintro e w5 ⟨rfl, hb5⟩
                  rw [Y1.out]
                  have HB5 := Lib.hid (HB4.out.below hb5)
                  have AY5 := Lib.hid (AY4.out.below hb5)
                  have v3 := AY5.out.cell0
                  have v4 := AY5.out.cell1
                  clear hb5 v1 v2
                  go_wp2_with (fail)
                  refine (busy_any _ qb _ d4 y _ HB5.out.live.1).mono ?_
                  rintro e w6 ⟨rfl, hb6⟩
                  rw [Y2.out]
                  have HB6 := Lib.hid (HB5.out.below hb6)
                  have AY6 := Lib.hid (AY5.out.below hb6)
                  have v5 := AY6.out.cell0
                  have v6 := AY6.out.cell1
                  clear hb6 v3 v4
                  obtain ⟨g9, c9, w9, r9, o9, q9, x9⟩ := row_app y HB6.out.rb.own HB6.out.live.2.size n2
                  have HP9 := Lib.hid (HB6.out.busy q9 o9 x9)
                  have R9 := Lib.hid r9
                  have AY9 : At qb d4 w9 w4.heap.size y := ⟨Nat.lt_of_lt_of_le AY6.out.lt q9.size, AY6.out.off, (q9.block _ AY6.out.lt (fun e => Nat.lt_irrefl _ (HU.out _ e.symm))).trans AY6.out.is⟩
                  have v7 := AY9.cell0
                  have v8 := AY9.cell1
                  clear r9 o9 q9 x9
                  go_wp2_with (at_builtin; refine wpList_append_run rfl (.tmp 81) (.tmp 83) 28 rfl rfl rfl R9.out ?_)
                  refine (without_any u7 dl y _ (Row.of_owns HP9.out.ru.own) n3).mono ?_
                  rintro e w10 ⟨v10, rfl, o10, hb10⟩
                  have HP10 := Lib.hid (HP9.out.due' hb10 o10)
                  clear o10 hb10
                  go_wp2
                  go_meet
                  case rel => exact Lib.hid ⟨_, _, _, _, HP10.out.play GD2.out⟩
              · have k5' : (x.kind == 5) = false := by simpa using k5
                clear k5
                by_cases k6 : x.kind = 6
                · have k6' : (x.kind == 6) = true := by simpa using k6
                  clear k6
                  go_wp2_with (fail)
                  refine (done_any _ qb s d x.ref _ BR.out.live.1 n1).mono ?_
                  rintro e w4 ⟨rfl, hst⟩
                  obtain ⟨d4, B4, t4⟩ := BR.out.step hst
                  have HB4 := Lib.hid B4
                  have AX4 := Lib.hid (t4 _ _ AX.out)
                  have g1 := AX4.out.act.1
                  have g2 := AX4.out.act.2
                  clear hst B4 t4 f1 f2
                  go_wp2_with (fail)
                  refine (without_any u6 bl x.ref _ (Row.of_owns HB4.out.rb.own) n2).mono ?_
                  rintro e w10 ⟨v10, rfl, o10, hb10⟩
                  have HP10 := Lib.hid (HB4.out.busy' hb10 o10)
                  clear o10 hb10
                  go_wp2
                  go_meet
                  case rel => exact Lib.hid ⟨_, _, _, _, HP10.out.play (GD.out.done x.ref)⟩
                · have k6' : (x.kind == 6) = false := by simpa using k6
                  clear k6
                  go_wp2
                  go_meet
                  case rel => exact Lib.hid ⟨_, _, _, _, BR.out.play GD.out.skip⟩
          case rest =>
            obtain ⟨s5, d5, bl5, dl5, hP5⟩ := hcut.out
            obtain ⟨m5, hm5⟩ : ∃ m5, m5 = dl5.length := ⟨_, rfl⟩
            obtain ⟨A5, c5, rfl⟩ : ∃ A5 c5, u7 = .slice A5 m5 c5 := by
              rcases Row.of_owns hP5.ru.own with ⟨h1, h2⟩ | ⟨g, c, h1, _⟩
              · exact ⟨none, 0, by rw [h1, hm5, h2]; rfl⟩
              · exact ⟨_, _, by rw [h1, hm5]⟩
            have n5 : m5 ≤ 1000000 := by have := hP5.good.l3; omega
            have HM5 := Lib.hid hm5
            have HP5 := Lib.hid hP5
            clear hm5
            have n1 : s5.line.length ≤ 1000000 := by have := hP5.good.l1; omega
            have n2 : bl5.length ≤ 1000000 := by have := hP5.good.l2; omega
            have n3 : dl5.length ≤ 1000000 := by have := hP5.good.l3; omega
            clear hP5 hcut e0 e1 e2 e3
            go_wp2_with (fail)
            refine (line_any _ qb s5 d5 _ HP5.out.live.1 n1).mono ?_
            rintro e w4 ⟨v4, rfl, o4, hb4⟩
            have HB4 := Lib.hid (HP5.out.bare.below hb4)
            have R4 := Lib.hid (Row.of_owns o4)
            obtain ⟨m, hm⟩ : ∃ m, m = s5.line.length := ⟨_, rfl⟩
            have Hm := Lib.hid hm
            obtain ⟨A4, c4, rfl⟩ : ∃ A4 c4, v4 = .slice A4 m c4 := by
              rcases Row.of_owns o4 with ⟨h1, h2⟩ | ⟨g, c, h1, _⟩
              · exact ⟨none, 0, by rw [h1, hm, h2]; rfl⟩
              · exact ⟨_, _, by rw [h1, hm]⟩
            rw [← hm] at n1
            clear o4 hb4 hm
            go_wp2_with (fail)
            go_loopw [13] (fun i wr2 => ∃ k2 : Nat, k2 ≤ m ∧ i = .int .i64 k2 ∧ Hid (Below w4.heap.size w4 wr2)) (fun i _ => m - (intOf i).toNat)
            case atStart => exact ⟨0, by omega, by go_num, Lib.hid (Below.refl _ _)⟩
            case round =>
              obtain ⟨k2, hk2m, rfl, HB2⟩ := hrel
              by_cases hlt2 : k2 < m
              · have hd2 : k2 < s5.line.length := by have := Hm.out; omega
                obtain ⟨g4, hA4, hcap4, hc4⟩ : ∃ g4, A4 = some ⟨g4, 0, none⟩ ∧ s5.line.length ≤ c4 ∧ ∀ j u, (s5.line.flatMap rc)[j]? = some u → w4.cell? ⟨g4, j, none⟩ = some u := by
                  rcases R4.out with ⟨h1, h2⟩ | ⟨g, c, h1, h2, h3⟩
                  · rw [h2] at hd2; simp at hd2
                  · cases h1; exact ⟨g, rfl, h2, h3⟩
                subst hA4
                obtain ⟨y, hy⟩ : ∃ y, y = s5.line[k2] := ⟨_, rfl⟩
                have e0 := G.cell_below HB2.out (hc4 _ _ (flat_at s5.line k2 hd2).1)
                have e1 := G.cell_below HB2.out (hc4 _ _ (flat_at s5.line k2 hd2).2)
                rw [← hy] at e0 e1
                obtain ⟨y1, y2⟩ := HP5.out.good.apart hd2
                rw [← hy] at y1 y2
                have hrow : Row w4 (.slice (some ⟨g4, 0, none⟩) k2 c4) (s5.line.take k2) := by
                  refine .inr ⟨g4, c4, by rw [List.length_take]; congr 1; omega, by rw [List.length_take]; omega, fun j u hj => ?_⟩
                  refine hc4 j u ?_
                  have : s5.line.flatMap rc = (s5.line.take k2).flatMap rc ++ (s5.line.drop k2).flatMap rc := by rw [← List.flatMap_append, List.take_append_drop]
                  rw [this, List.getElem?_append_left]
                  · exact hj
                  · rcases Nat.lt_or_ge j ((s5.line.take k2).flatMap rc).length with h | h
                    · exact h
                    · rw [List.getElem?_eq_none h] at hj; simp at hj
                have C1 : Hid (∀ W, Below w4.heap.size w4 W → Calls Try.prog 10 #[.slice (some ⟨g4, 0, none⟩) k2 c4, .agg #[.int .i64 y.kind, .string y.name]] W fun e w' => e = .returned (.bool false) ∧ Below W.heap.size W w') := Lib.hid fun W hb => by
                  have := has_any _ (s5.line.take k2) y W (hrow.below hb) (by rw [List.length_take]; omega)
                  rw [decide_eq_false y1] at this; exact this
                have C2 : Hid (∀ W, Below w4.heap.size w4 W → Calls Try.prog 10 #[u6, .agg #[.int .i64 y.kind, .string y.name]] W fun e w' => e = .returned (.bool false) ∧ Below W.heap.size W w') := Lib.hid fun W hb => by
                  have := has_any _ bl5 y W ((Row.of_owns HB4.out.rb.own).below hb) n2
                  rw [decide_eq_false y2] at this; exact this
                have hsl : ∀ W : World, (Instr.slice 28 (.slice (some ⟨g4, 0, none⟩) m c4) none (some (.int .i64 k2)) none).run Try.prog W = .ok (.slice (some ⟨g4, 0, none⟩) k2 c4) W := fun W => by
                  have : ¬ c4 = 0 := by omega
                  simp [Instr.slice, Instr.sliceBounds, Instr.sliceBound, asIntOf, go_sem]
                  intro hh
                  omega
                have hb2 := HB2.out
                clear y1 y2 hrow hc4 hcap4 hy HB2
                go_wp2_with (fail)
                go_region_held3 (fun W => Below w4.heap.size w4 W ∧ W.cell? ⟨g4, k2 * 2, none⟩ = some (.int .i64 y.kind) ∧ W.cell? ⟨g4, k2 * 2 + 1, none⟩ = some (.string y.name)) (first | assumption | exact ⟨G.bdrew hb2, e0, e1⟩ | exact sees (by assumption) (by assumption)) (first | (go_at_call_of 10 (Value.slice (some ⟨g4, 0, none⟩) k2 c4); refine (C1.out _ (And.left ‹_ ∧ _›)).mono ?_; rintro e w' ⟨rfl, hb'⟩) | (go_at_call 10; refine (C2.out _ (And.left ‹_ ∧ _›)).mono ?_; rintro e w' ⟨rfl, hb'⟩))
                all_goals
                  refine hold (by assumption) (fun HB9 => ?_)
                  go_wp2_with (fail)
                  go_roundw
                  case rel => exact ⟨k2 + 1, by omega, by go_num, HB9⟩
                  case measure => simp [intOf]; omega
              · have hkm : k2 = m := by omega
                subst hkm
                go_wp2_with (fail)
                go_loopw [14] (fun i wr3 => ∃ k3 : Nat, k3 ≤ m5 ∧ i = .int .i64 k3 ∧ Hid (Below w4.heap.size w4 wr3)) (fun i _ => m5 - (intOf i).toNat)
                case atStart => exact ⟨0, by omega, by go_num, HB2⟩
                case round =>
                  obtain ⟨k3, hk3, rfl, HB3⟩ := hrel
                  by_cases hlt3 : k3 < m5
                  · have hd3 : k3 < dl5.length := by have := HM5.out; omega
                    obtain ⟨g5, hA5, hc5⟩ : ∃ g5, A5 = some ⟨g5, 0, none⟩ ∧ ∀ j u, (dl5.flatMap rc)[j]? = some u → w4.cell? ⟨g5, j, none⟩ = some u := by
                      rcases Row.of_owns HB4.out.ru.own with ⟨h1, h2⟩ | ⟨g, c, h1, _, h3⟩
                      · rw [h2] at hd3; simp at hd3
                      · cases h1; exact ⟨g, rfl, h3⟩
                    subst hA5
                    obtain ⟨y, hy⟩ : ∃ y, y = dl5[k3] := ⟨_, rfl⟩
                    have e0 := G.cell_below HB3.out (hc5 _ _ (flat_at dl5 k3 hd3).1)
                    have e1 := G.cell_below HB3.out (hc5 _ _ (flat_at dl5 k3 hd3).2)
                    rw [← hy] at e0 e1
                    have hyd : y ∈ dl5 := by rw [hy]; exact List.getElem_mem _
                    have Hyd := Lib.hid hyd
                    clear hy hyd hc5
                    by_cases hyl : y ∈ s5.line
                    · have hyl' : decide (y ∈ s5.line) = true := decide_eq_true hyl
                      have HY := Lib.hid hyl'
                      clear hyl hyl'
                      go_wp2_with (fail)
                      refine (has_any _ s5.line y _ (R4.out.below HB3.out) (by rw [← Hm.out]; exact n1)).mono ?_
                      rintro e w7 ⟨rfl, hb7⟩
                      rw [HY.out]
                      have HB7 := Lib.hid (G.bthen HB3.out hb7)
                      clear hb7
                      go_wp2
                      go_roundw
                      case rel => exact ⟨k3 + 1, by omega, by go_num, HB7⟩
                      case measure => simp [intOf]; omega
                    · have hyl' : decide (y ∈ s5.line) = false := decide_eq_false hyl
                      have hyb : decide (y ∈ bl5) = true := decide_eq_true (HP5.out.good.there Hyd.out hyl)
                      have HY := Lib.hid hyl'
                      have HYb := Lib.hid hyb
                      clear hyl hyl' hyb
                      go_wp2_with (fail)
                      refine (has_any _ s5.line y _ (R4.out.below HB3.out) (by rw [← Hm.out]; exact n1)).mono ?_
                      rintro e w7 ⟨rfl, hb7⟩
                      rw [HY.out]
                      have f0 := G.cell_below hb7 e0
                      have f1 := G.cell_below hb7 e1
                      have HB7 := Lib.hid (G.bthen HB3.out hb7)
                      clear hb7 e0 e1
                      go_wp2_with (fail)
                      refine (has_any _ bl5 y _ ((Row.of_owns HB4.out.rb.own).below HB7.out) n2).mono ?_
                      rintro e w8 ⟨rfl, hb8⟩
                      rw [HYb.out]
                      have HB8 := Lib.hid (G.bthen HB7.out hb8)
                      clear hb8
                      go_wp2
                      go_roundw
                      case rel => exact ⟨k3 + 1, by omega, by go_num, HB8⟩
                      case measure => simp [intOf]; omega
                  · have hkm : k3 = m5 := by omega
                    subst hkm
                    go_wp2
                    go_roundw
                    case rel => exact ⟨k + 1, by omega, by omega, by go_num, Lib.hid ⟨_, _, _, _, (HB4.out.below HB3.out).play HP5.out.good⟩⟩
                    case measure => simp [intOf]; omega
      · have : k = 100 := by omega
        subst this
        go_wp2
        go_ret
        obtain ⟨s, d, bl, dl, hP⟩ := H.out
        exact ⟨rfl, hP.live.2⟩
    · have : k = n := by omega
      subst this
      go_wp2
      go_ret
      obtain ⟨s, d, bl, dl, hP⟩ := H.out
      exact ⟨rfl, hP.live.2⟩
end Go.Proofs.Ythmknlflgajnpaa
