/- The reference's Bytes: laws of the walk. -/
import Derived.Test.YtolndeolehkjoaaRb1
import Derived.Test.YtolndeolehkjoaaLg2
import Derived.Test.YtolndeolehkjoaaTk
import Derived.Test.YtolndeolehkjoaaCodT
import Derived.Test.YtolndeolehkjoaaNum2
import Derived.Deep.Cut
import Derived.Deep.CutRange
namespace Go.Proofs.Ytolndeolehkjoaa
set_option linter.unusedVariables false
set_option linter.unusedSimpArgs false
open Go.RowKit CodP
section
variable {P : Program} {ops : Array Oper} {Q : Exit → Act → World → Prop} {md : Region.Mode} {S S' : World → Prop}
theorem wpAnyH_str (h : ∀ V, S' V → S V) : ∀ (fuel : Nat) (listed : Array Bool) (a : Act) (w : World), wpAnyH P md ops Q S' fuel listed a w → wpAnyH P md ops Q S fuel listed a w
  | 0, _, _, _, k => k
  | fuel + 1, _, _, _, k => ⟨k.1, fun i hi => wpOp_mono (fun a' w' h' => ⟨h _ h'.1, wpAnyH_str h fuel _ a' w' h'.2⟩) (k.2 i hi)⟩
end
/-- what a walk through a region keeps: a box, the world below, cells that were made -/
structure SB (x : Nat) (cs : Array Value) (w1 : World) (L : List (Addr × Value)) (V : World) : Prop where
  is : V.heap[x]? = some (.cells cs 32 (0, 0))
  b : Below w1.heap.size w1 V
  l : ∀ p ∈ L, V.cell? p.1 = some p.2
  lt : x < w1.heap.size
theorem SB.next {x : Nat} {cs : Array Value} {w1 V V' : World} {L : List (Addr × Value)} (h : SB x cs w1 L V) (hb : Below V.heap.size V V') : SB x cs w1 L V' :=
  ⟨(hb.block x (Nat.lt_of_lt_of_le h.lt h.b.size)).trans h.is, G.bthen h.b hb, fun p hp => G.cell_below hb (h.l p hp), h.lt⟩
theorem SB.add {x : Nat} {cs : Array Value} {w1 V : World} {L : List (Addr × Value)} (h : SB x cs w1 L V) {a : Addr} {v : Value} (hc : V.cell? a = some v) : SB x cs w1 ((a, v) :: L) V :=
  ⟨h.is, h.b, fun p hp => by rcases List.mem_cons.1 hp with rfl | hp; exact hc; exact h.l p hp, h.lt⟩
theorem SB.weak {x : Nat} {cs : Array Value} {w1 V : World} {L : List (Addr × Value)} {q : Addr × Value} (h : SB x cs w1 (q :: L) V) : SB x cs w1 L V :=
  ⟨h.is, h.b, fun p hp => h.l p (List.mem_cons_of_mem _ hp), h.lt⟩
theorem SB.drew {x : Nat} {cs : Array Value} {w1 V : World} {L : List (Addr × Value)} (h : SB x cs w1 L V) : SB x cs w1 L V.drew := ⟨h.is, G.bdrew h.b, h.l, h.lt⟩
theorem SB.nil {x : Nat} {cs : Array Value} {w1 V : World} {L : List (Addr × Value)} (h : SB x cs w1 L V) : SB x cs w1 [] V := ⟨h.is, h.b, by simp, h.lt⟩
theorem wp_build1 {o : Oper} {a : Act} {w : World} {K : Act → World → Prop} {Q : Exit → Act → World → Prop} (d t : Nat) (n : Int) (hd : o.dst = some d) (ho : o.op = .buildSlice 67 1 #[(0, .tmp t)]) (hx : a.tmps[t]?.getD undef = .int .u8 n)
    (h : ∀ b w', w'.cell? ⟨b, 0, none⟩ = some (.int .u8 n) → Below w.heap.size w w' → K ⟨a.tmps.setIfInBounds d (.slice (some ⟨b, 0, none⟩) 1 1), a.defers⟩ w') : Oper.wp Try.prog o a w K Q := by
  have hk := h _ _ (cell_new1 w n) (bel_alloc _ _)
  obtain ⟨dst, op, ty, pos, after, guard⟩ := o
  simp only at ho hd
  subst ho; subst hd
  clear h
  go_simp
  exact hk
theorem rnumI_any (u : Int) (h0 : 0 ≤ u) (h : u ≤ 1099511627776) (w : World) : Calls Try.prog 14 #[.int .i64 u] w fun e w' => e = .returned (.string (num8 u.toNat)) ∧ Below w.heap.size w w' := by
  have := rnumber_any u.toNat (by omega) w
  rw [show ((u.toNat : Nat) : Int) = u by omega] at this
  exact this
def rb1 (o : Ob) : ByteArray := bB o.kind ++ bT o.name ++ num8 o.uid.toNat ++ num8 o.version.toNat
def rb2 (o : Ob) : ByteArray := rb1 o ++ bB (if o.deleting then 1 else 0)
def bTs (l : List ByteArray) : ByteArray := ofBL (eB l.length ++ l.flatMap eT)
def rb3 (o : Ob) : ByteArray := rb2 o ++ bTs o.fins ++ bB o.labels.length
theorem rtextsB_any (L : List ByteArray) (A : Option Addr) (c : Nat) (hL : L.length ≤ 200) (hl : ∀ s ∈ L, s.size ≤ 200) (w : World) (hr : RowR w A (L.flatMap cS)) :
    Calls Try.prog 83 #[.slice A L.length c] w fun e w' => e = .returned (.string (bTs L)) ∧ Below w.heap.size w w' := rtexts15_any L A c hL hl w hr
theorem bTs_size (l : List ByteArray) (h1 : l.length ≤ 40) (h : ∀ s ∈ l, s.size ≤ 200) : (bTs l).size ≤ 8100 := by
  rw [← BL_length, bTs, BL_ofBL, List.length_append]
  have := fm_len eT 201 l fun x hx => eT_le x (h x hx)
  have e1 : (eB l.length).length = 1 := rfl
  omega
theorem rb1_size (o : Ob) (h : o.name.size ≤ 200) : (rb1 o).size ≤ 300 := by
  unfold rb1; simp only [ByteArray.size_append, bB_size, bT_size, num8_size]; omega
theorem rb2_size (o : Ob) (h : o.name.size ≤ 200) : (rb2 o).size ≤ 301 := by
  have := rb1_size o h
  unfold rb2; simp only [ByteArray.size_append, bB_size]; omega
theorem rb3_size (o : Ob) (h : o.name.size ≤ 200) (h1 : o.fins.length ≤ 40) (h2 : ∀ s ∈ o.fins, s.size ≤ 200) : (rb3 o).size ≤ 8600 := by
  have := rb2_size o h
  have := bTs_size _ h1 h2
  unfold rb3; simp only [ByteArray.size_append, bB_size]; omega
theorem rb_head (o : Ob) (b : ByteArray) (h : BL b = BL (rb3 o) ++ o.labels.flatMap eP) : BL b = eHead o := by
  rw [h]; unfold rb3 rb2 rb1 eHead
  simp only [BL_append, BL_bB, BL_bT, bTs, BL_ofBL, List.append_assoc]
theorem u8w {n : Int} (h0 : 0 ≤ n) (h : n ≤ 255) : IntKind.u8.wrap n = n := by
  show n % 256 = n
  omega
end Go.Proofs.Ytolndeolehkjoaa
