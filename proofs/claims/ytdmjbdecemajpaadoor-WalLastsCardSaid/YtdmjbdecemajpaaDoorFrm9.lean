/- The walks of frame.Pack and of the law FrameTorn. -/
import Derived.Test.YtdmjbdecemajpaaDoorFrm7
import Derived.Test.YtdmjbdecemajpaaDoorBld
import Derived.Test.YtdmjbdecemajpaaDoorShelf
namespace Go.Proofs.YtdmjbdecemajpaaDoor
open Go.RowKit SumP
theorem lies74 : B.Lies 74 := by unfold B.Lies; kernel_rfl
theorem packs_size (l : List ByteArray) (h : ∀ b ∈ l, b.size ≤ 300) : (packs l).size ≤ 308 * l.length := by
  induction l with
  | nil => simp [packs, ByteArray.size]
  | cons b l ih =>
    have h1 := h b (by simp)
    have h2 := ih (fun x hx => h x (by simp [hx]))
    simp only [packs, ByteArray.size_append, frm_size, List.length_cons]; omega
theorem strCells_append (a b : ByteArray) : Lib.strCells (a ++ b) = Lib.strCells a ++ Lib.strCells b := by simp [Lib.strCells]
theorem mk_toList (s : ByteArray) : (⟨(s.data.toList).toArray⟩ : ByteArray) = s := by cases s; simp
set_option maxRecDepth 100000 in
set_option maxHeartbeats 2000000 in
theorem pack_any (va : Value) (l : List ByteArray) (hl : l.length ≤ 30) (hsz : ∀ b ∈ l, b.size ≤ 300) (w : World) (hT : Hid (TabOf w)) (ha : G.HasRow w 1 va l.length (strs l)) :
    Calls Tryd.prog 28 #[va] w fun e w' => e = .returned (.tuple #[.string (packs l), .int .i64 0]) ∧ Below w.heap.size w w' := by
  obtain ⟨_, A, ca, rfl, hnc, hcm, hcell⟩ := ha
  obtain ⟨n, hn⟩ : ∃ n, n = l.length := ⟨_, rfl⟩
  rw [← hn] at hnc hl
  rw [← hn]
  have Hcell := Lib.hid hcell
  have Hn := Lib.hid hn
  have Hsz := Lib.hid hsz
  clear hcell hn hsz
  go_enter Tryd.func28, Tryd.ntmps28
  go_wp2
  go_loopw [11] (fun i wr => ∃ k : Nat, k ≤ n ∧ i = .int .i64 k ∧ Below w.heap.size w wr ∧ Hid (w.heap.size + 1 ≤ wr.heap.size) ∧ Hid (Lib.IsBuilder 74 5 w.heap.size w.heap.size (Lib.strCells (packs (l.take k))) wr)) (fun i _ => n - (intOf i).toNat)
  case atStart =>
    refine ⟨0, by omega, rfl, (Below.refl _ _).alloc (Nat.le_refl _) _, Lib.hid (by simp), Lib.hid ?_⟩
    exact Lib.fresh_isBuilder 74 5 w
  case round =>
    obtain ⟨k, hk, rfl, hb, Hs, H⟩ := hrel
    by_cases hlt : k < n
    · have hka : k < l.length := by have := Hn.out; omega
      obtain ⟨ad, rfl, hc0⟩ := Hcell.out k _ (strs_getElem l k hka)
      have c1 : wr.cell? (ad.add k) = some (.string l[k]) := G.cell_below hb hc0
      have h300 := Hsz.out l[k] (List.getElem_mem hka)
      have t1 : packs (l.take (k + 1)) = packs (l.take k) ++ frm l[k] := by rw [take_snoc l k hka, packs_snoc]
      have hps := packs_size (l.take k) (fun b hb => Hsz.out b (List.mem_of_mem_take hb))
      have hpl : (l.take k).length ≤ 30 := by simp; omega
      have hT1 : Hid (TabOf wr) := Lib.hid (TabOf.below hT.out hb)
      obtain ⟨x, hx⟩ : ∃ x, x = l[k] := ⟨_, rfl⟩
      rw [← hx] at c1 h300 t1
      have c2 := fun W hT => fOf_any x (by omega) W hT
      have hfs : (Lib.strCells (packs (l.take k))).length + (frm x).size ≤ 140737488355328 := by rw [Lib.strCells_length, frm_size]; omega
      have c3 := fun w1 (h : Lib.IsBuilder 74 5 w.heap.size w.heap.size (Lib.strCells (packs (l.take k))) w1) (hB : w.heap.size ≤ w1.heap.size) => B.writeString 74 lies74 (by decide) _ _ _ (frm x) w1 h hfs hB
      rw [show Lib.strCells (packs (l.take k)) ++ Lib.strCells (frm x) = Lib.strCells (packs (l.take (k + 1))) by rw [t1, strCells_append]] at c3
      obtain ⟨f, hf⟩ : ∃ f, f = frm x := ⟨_, rfl⟩
      rw [← hf] at c2 c3
      have C2 := Lib.hid c2
      have C3 := Lib.hid c3
      have hlt' : (k : Int) < n := by omega
      clear c2 c3 hf hfs hx t1 hps hpl hka hc0
      go_wp2_with (first
        | (go_at_call 20; refine Calls.mono (C2.out _ hT1) ?_; rintro e w1 ⟨rfl, hb1⟩; have hB1 : Hid (w.heap.size + 1 ≤ w1.heap.size) := Lib.hid (Nat.le_trans Hs.out hb1.size))
        | (go_at_call 48; refine Calls.mono (C3.out _ (B.below_of H.out hb1) (Nat.le_trans (Nat.le_succ _) hB1.out)) ?_; rintro e w2 ⟨rfl, hbd2, hb2⟩; have Hbd2 := Lib.hid hbd2; clear hbd2))
      go_roundw
      case rel =>
        exact ⟨k + 1, by omega, by go_num, (G.bthen' hb (Nat.le_trans (Nat.le_succ _) Hs.out) hb1).trans hb2, Lib.hid (Nat.le_trans hB1.out hb2.size), Hbd2⟩
      case measure => simp [intOf]; omega
    · have hk' : l.take k = l := List.take_of_length_le (by have := Hn.out; omega)
      rw [hk'] at H
      have c := Tryd.Builder_String_any w.heap.size w.heap.size (packs l).data.toList wr H.out (Nat.le_trans (Nat.le_succ _) Hs.out)
      rw [mk_toList] at c
      have C := Lib.hid c
      clear c hk'
      go_wp2_with (go_at_call 49; refine Calls.mono C.out ?_; rintro e w2 ⟨rfl, hb2⟩)
      go_ret2
      exact ⟨rfl, hb.trans hb2⟩
end Go.Proofs.YtdmjbdecemajpaaDoor
