/- The reference's bytes: a text, texts. -/
import Derived.Test.YtolndeolehkjoaaSh4c
import Derived.Test.YtolndeolehkjoaaNum1
import Derived.Test.YtolndeolehkjoaaWr3
import Derived.Test.YtolndeolehkjoaaLg2c
import Derived.Test.YtolndeolehkjoaaTkc
import Derived.Test.YtolndeolehkjoaaCodTc
import Derived.Test.YtolndeolehkjoaaNum2c
import Derived.Deep.Cut
import Derived.Deep.CutRange
namespace Go.Proofs.Ytolndeolehkjoaa
set_option linter.unusedVariables false
set_option linter.unusedSimpArgs false
open Go.RowKit CodP
def bB (n : Int) : ByteArray := ofBL (eB n)
def bT (s : ByteArray) : ByteArray := bB s.size ++ s
theorem BL_bB (n : Int) : BL (bB n) = eB n := BL_ofBL _
theorem BL_bT (s : ByteArray) : BL (bT s) = eT s := by rw [bT, BL_append, BL_bB]; rfl
theorem bB_size (n : Int) : (bB n).size = 1 := by rw [← BL_length, BL_bB]; rfl
theorem bT_size (s : ByteArray) : (bT s).size = s.size + 1 := by rw [← BL_length, BL_bT, eT_len]
theorem conv1 (n : Int) (V : World) (b : Nat) (hb : V.cell? ⟨b, 0, none⟩ = some (.int .u8 n)) :
    (convert 67 9 (.slice (some ⟨b, 0, none⟩) 1 1)).run Try.prog V = .ok (.string (bB n)) V := by
  have := run_convert_bytes_arg (P := Try.prog) (w := V) 67 5 Try.underlying67 Try.underlying5 b 0 1 1 [n] rfl (fun i hi => by
    obtain rfl : i = 0 := by omega
    exact hb) 9 Try.underlying9
  rw [this]
  congr 2
theorem cell_new1 (w : World) (n : Int) : (w.alloc (.cells #[.int .u8 n] 5)).cell? ⟨w.heap.size, 0, none⟩ = some (.int .u8 n) := by
  have := G.heap_new w (.cells #[.int .u8 n] 5)
  simp only [World.cell?, this]
  rfl
set_option maxRecDepth 100000 in
set_option maxHeartbeats 2000000 in
theorem rtext_any (s : ByteArray) (hs : s.size ≤ 200) (w : World) :
    Calls Try.prog 59 #[.string s] w fun e w' => e = .returned (.string (bT s)) ∧ Below w.heap.size w w' := by
  have hcv := conv1 s.size _ _ (cell_new1 w s.size)
  have hz : (bB s.size).size = 1 := bB_size _
  go_enter Try.func59, Try.ntmps59
  go_wp2
  go_ret
  exact ⟨rfl, bel_alloc _ _⟩
set_option maxRecDepth 100000 in
set_option maxHeartbeats 2000000 in
theorem rtexts15_any (L : List ByteArray) (A : Option Addr) (c : Nat) (hL : L.length ≤ 200) (hl : ∀ s ∈ L, s.size ≤ 200) (w : World) (hr : RowR w A (L.flatMap cS)) :
    Calls Try.prog 83 #[.slice A L.length c] w fun e w' => e = .returned (.string (ofBL (eB L.length ++ L.flatMap eT))) ∧ Below w.heap.size w w' := by
  have hcv := conv1 L.length _ _ (cell_new1 w L.length)
  have HR := Lib.hid hr
  have HL := Lib.hid hl
  clear hr hl
  go_enter Try.func83, Try.ntmps83
  go_wp2
  go_loopw [3, 4] (fun s i wr => ∃ k : Nat, ∃ b : ByteArray, k ≤ L.length ∧ i = .int .i64 k ∧ s = .string b ∧ b.size ≤ 201 * k + 1 ∧ Hid (b = ofBL (eB L.length ++ (L.take k).flatMap eT) ∧ Below w.heap.size w wr)) (fun _ i _ => L.length - (intOf i).toNat)
  case atStart => exact ⟨0, _, Nat.zero_le _, rfl, rfl, by rw [bB_size]; omega, Lib.hid ⟨by simp [bB], bel_alloc _ _⟩⟩
  case round =>
    obtain ⟨k, b, hk, rfl, rfl, hbz, H⟩ := hrel
    by_cases hkn : k < L.length
    · obtain ⟨x, hx⟩ : ∃ x, L[k]? = some x := ⟨_, List.getElem?_eq_getElem hkn⟩
      have h1 := flat_at cS 1 (fun _ => rfl) L k x hx 0 (by omega)
      obtain ⟨ad, hA, e1⟩ := HR.out.below H.out.2 _ _ h1
      simp only [Nat.mul_one, Nat.add_zero] at e1
      subst hA
      have HX := Lib.hid hx
      have HC := Lib.hid (rtext_any x (HL.out x (List.mem_of_getElem? hx)) wr)
      have hx2 : (bT x).size ≤ 201 := by rw [bT_size]; have := HL.out x (List.mem_of_getElem? hx); omega
      clear h1 hx hcv
      go_wp2_with (go_at_call 59; refine HC.out.mono ?_; rintro e w2 ⟨rfl, hb2⟩)
      go_roundw
      case rel =>
        refine ⟨k + 1, _, by omega, by go_num, rfl, by rw [ByteArray.size_append]; omega, Lib.hid ⟨?_, H.out.2.trans (belowLe H.out.2.size hb2)⟩⟩
        apply BL_inj
        rw [BL_append, BL_bT, H.out.1, BL_ofBL, BL_ofBL, List.take_add_one, HX.out]
        simp [List.flatMap_append]
      case measure => simp [intOf]; omega
    · obtain rfl : k = L.length := by omega
      clear hcv
      go_wp2
      go_ret
      exact ⟨by rw [H.out.1, List.take_length]; rfl, H.out.2⟩
end Go.Proofs.Ytolndeolehkjoaa
namespace Go.Proofs.Ytolndeolehkjoaa
set_option linter.unusedVariables false
set_option linter.unusedSimpArgs false
open Go.RowKit CodP
section
variable {P : Program} {ops : Array Oper} {Q : Exit → Act → World → Prop} {md : Region.Mode} {S S' : World → Prop}
theorem wpAnyH_str (h : ∀ V, S' V → S V) : ∀ (fuel : Nat) (listed : Array Bool) (a : Act) (w : World), wpAnyH P md ops Q S' fuel listed a w → wpAnyH P md ops Q S fuel listed a w
  | 0, _, _, _, k => k
  | fuel + 1, _, _, _, k => ⟨k.1, fun i hi => wpOp_mono (fun a' w' h' => ⟨h _ h'.1, wpAnyH_str h fuel _ a' w' h'.2⟩) (k.2 i hi)⟩
end
/-- what a walk through a region keeps: a box, the world below, cells that were made -/
structure SB (x : Nat) (cs : Array Value) (w1 : World) (L : List (Addr × Value)) (V : World) : Prop where
  is : V.heap[x]? = some (.cells cs 32 (0, 0))
  b : Below w1.heap.size w1 V
  l : ∀ p ∈ L, V.cell? p.1 = some p.2
  lt : x < w1.heap.size
theorem SB.next {x : Nat} {cs : Array Value} {w1 V V' : World} {L : List (Addr × Value)} (h : SB x cs w1 L V) (hb : Below V.heap.size V V') : SB x cs w1 L V' :=
  ⟨(hb.block x (Nat.lt_of_lt_of_le h.lt h.b.size)).trans h.is, G.bthen h.b hb, fun p hp => G.cell_below hb (h.l p hp), h.lt⟩
theorem SB.add {x : Nat} {cs : Array Value} {w1 V : World} {L : List (Addr × Value)} (h : SB x cs w1 L V) {a : Addr} {v : Value} (hc : V.cell? a = some v) : SB x cs w1 ((a, v) :: L) V :=
  ⟨h.is, h.b, fun p hp => by rcases List.mem_cons.1 hp with rfl | hp; exact hc; exact h.l p hp, h.lt⟩
theorem SB.weak {x : Nat} {cs : Array Value} {w1 V : World} {L : List (Addr × Value)} {q : Addr × Value} (h : SB x cs w1 (q :: L) V) : SB x cs w1 L V :=
  ⟨h.is, h.b, fun p hp => h.l p (List.mem_cons_of_mem _ hp), h.lt⟩
theorem SB.drew {x : Nat} {cs : Array Value} {w1 V : World} {L : List (Addr × Value)} (h : SB x cs w1 L V) : SB x cs w1 L V.drew := ⟨h.is, G.bdrew h.b, h.l, h.lt⟩
theorem SB.nil {x : Nat} {cs : Array Value} {w1 V : World} {L : List (Addr × Value)} (h : SB x cs w1 L V) : SB x cs w1 [] V := ⟨h.is, h.b, by simp, h.lt⟩
theorem wp_build1 {o : Oper} {a : Act} {w : World} {K : Act → World → Prop} {Q : Exit → Act → World → Prop} (d t : Nat) (n : Int) (hd : o.dst = some d) (ho : o.op = .buildSlice 67 1 #[(0, .tmp t)]) (hx : a.tmps[t]?.getD undef = .int .u8 n)
    (h : ∀ b w', w'.cell? ⟨b, 0, none⟩ = some (.int .u8 n) → Below w.heap.size w w' → K ⟨a.tmps.setIfInBounds d (.slice (some ⟨b, 0, none⟩) 1 1), a.defers⟩ w') : Oper.wp Try.prog o a w K Q := by
  have hk := h _ _ (cell_new1 w n) (bel_alloc _ _)
  obtain ⟨dst, op, ty, pos, after, guard⟩ := o
  simp only at ho hd
  subst ho; subst hd
  clear h
  go_simp
  exact hk
theorem rnumI_any (u : Int) (h0 : 0 ≤ u) (h : u ≤ 1099511627776) (w : World) : Calls Try.prog 14 #[.int .i64 u] w fun e w' => e = .returned (.string (num8 u.toNat)) ∧ Below w.heap.size w w' := by
  have := rnumber_any u.toNat (by omega) w
  rw [show ((u.toNat : Nat) : Int) = u by omega] at this
  exact this
def rb1 (o : Ob) : ByteArray := bB o.kind ++ bT o.name ++ num8 o.uid.toNat ++ num8 o.version.toNat
def rb2 (o : Ob) : ByteArray := rb1 o ++ bB (if o.deleting then 1 else 0)
def bTs (l : List ByteArray) : ByteArray := ofBL (eB l.length ++ l.flatMap eT)
def rb3 (o : Ob) : ByteArray := rb2 o ++ bTs o.fins ++ bB o.labels.length
theorem rtextsB_any (L : List ByteArray) (A : Option Addr) (c : Nat) (hL : L.length ≤ 200) (hl : ∀ s ∈ L, s.size ≤ 200) (w : World) (hr : RowR w A (L.flatMap cS)) :
    Calls Try.prog 83 #[.slice A L.length c] w fun e w' => e = .returned (.string (bTs L)) ∧ Below w.heap.size w w' := rtexts15_any L A c hL hl w hr
theorem bTs_size (l : List ByteArray) (h1 : l.length ≤ 40) (h : ∀ s ∈ l, s.size ≤ 200) : (bTs l).size ≤ 8100 := by
  rw [← BL_length, bTs, BL_ofBL, List.length_append]
  have := fm_len eT 201 l fun x hx => eT_le x (h x hx)
  have e1 : (eB l.length).length = 1 := rfl
  omega
theorem rb1_size (o : Ob) (h : o.name.size ≤ 200) : (rb1 o).size ≤ 300 := by
  unfold rb1; simp only [ByteArray.size_append, bB_size, bT_size, num8_size]; omega
theorem rb2_size (o : Ob) (h : o.name.size ≤ 200) : (rb2 o).size ≤ 301 := by
  have := rb1_size o h
  unfold rb2; simp only [ByteArray.size_append, bB_size]; omega
theorem rb3_size (o : Ob) (h : o.name.size ≤ 200) (h1 : o.fins.length ≤ 40) (h2 : ∀ s ∈ o.fins, s.size ≤ 200) : (rb3 o).size ≤ 8600 := by
  have := rb2_size o h
  have := bTs_size _ h1 h2
  unfold rb3; simp only [ByteArray.size_append, bB_size]; omega
theorem rb_head (o : Ob) (b : ByteArray) (h : BL b = BL (rb3 o) ++ o.labels.flatMap eP) : BL b = eHead o := by
  rw [h]; unfold rb3 rb2 rb1 eHead
  simp only [BL_append, BL_bB, BL_bT, bTs, BL_ofBL, List.append_assoc]
theorem u8w {n : Int} (h0 : 0 ≤ n) (h : n ≤ 255) : IntKind.u8.wrap n = n := by
  show n % 256 = n
  omega
end Go.Proofs.Ytolndeolehkjoaa
