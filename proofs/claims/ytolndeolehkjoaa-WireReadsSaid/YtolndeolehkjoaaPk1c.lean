/- Pack: an object's bytes. -/
import Derived.Test.YtolndeolehkjoaaWr3
import Derived.Test.YtolndeolehkjoaaSh4c
namespace Go.Proofs.Ytolndeolehkjoaa
set_option linter.unusedVariables false
set_option linter.unusedSimpArgs false
open Go.RowKit CodP
theorem enc_text (s : ByteArray) : textC.enc s = eT s := rfl
theorem enc_list {T : Type} (c : Cod T) (m : Int) (l : List T) : (listC c m).enc l = eB l.length ++ l.flatMap c.enc := by
  show eB l.length ++ (repC c (l.length : Int).toNat).1.enc l = _
  rw [repC_enc c _ l (by simp)]
theorem enc_texts (m : Int) (l : List ByteArray) : (listC textC m).enc l = eB l.length ++ l.flatMap eT := enc_list textC m l
theorem enc_pairs (m : Int) (l : List (ByteArray × ByteArray)) : (listC pairC m).enc l = eB l.length ++ l.flatMap eP := enc_list pairC m l
theorem enc_ints (k m : Int) (l : List Int) : (listC (smallC k) m).enc l = eB l.length ++ l.flatMap eB := enc_list (smallC k) m l
theorem enc_ob (o : Ob) (hk : 1 ≤ o.kind ∧ o.kind ≤ 4) : obC.enc o = eHead o ++ eTail o := by
  have e : obC.enc o = eB o.kind ++ (eT o.name ++ (BL (num8 o.uid.toNat) ++ (BL (num8 o.version.toNat) ++ (eB (if o.deleting then 1 else 0) ++ ((listC textC 4).enc o.fins ++ ((listC pairC 16).enc o.labels ++
      (tailC o.kind).enc ⟨o.cidrs, o.status, o.type, o.policy, o.fams, o.ips, o.v4, o.v6, o.bits, o.sel, o.about, o.reason⟩)))))) := rfl
  rw [e, enc_texts, enc_pairs]
  unfold eHead
  rw [BL_append]
  rcases (by omega : o.kind = 1 ∨ o.kind = 2 ∨ o.kind = 3 ∨ o.kind = 4) with h | h | h | h
  · have t : (tailC o.kind).enc ⟨o.cidrs, o.status, o.type, o.policy, o.fams, o.ips, o.v4, o.v6, o.bits, o.sel, o.about, o.reason⟩ = (listC textC 8).enc o.cidrs ++ eT o.status := by rw [h]; rfl
    have t2 : eTail o = (eB o.cidrs.length ++ o.cidrs.flatMap eT) ++ eT o.status := if_pos h
    rw [t, enc_texts, t2]
    simp only [List.append_assoc]
  · have t : (tailC o.kind).enc ⟨o.cidrs, o.status, o.type, o.policy, o.fams, o.ips, o.v4, o.v6, o.bits, o.sel, o.about, o.reason⟩ = eB o.type ++ (eB o.policy ++ ((listC (smallC 255) 8).enc o.fams ++ (listC textC 8).enc o.ips)) := by rw [h]; rfl
    have t2 : eTail o = eB o.type ++ eB o.policy ++ (eB o.fams.length ++ o.fams.flatMap eB) ++ (eB o.ips.length ++ o.ips.flatMap eT) := by unfold eTail; rw [if_neg (by omega), if_pos h]
    rw [t, enc_texts, enc_ints, t2]
    simp only [List.append_assoc]
  · have t : (tailC o.kind).enc ⟨o.cidrs, o.status, o.type, o.policy, o.fams, o.ips, o.v4, o.v6, o.bits, o.sel, o.about, o.reason⟩ = eT o.v4 ++ (eT o.v6 ++ (eB o.bits ++ eT o.sel)) := by rw [h]; rfl
    have t2 : eTail o = [o.v4, o.v6].flatMap eT ++ eB o.bits ++ eT o.sel := by unfold eTail; rw [if_neg (by omega), if_neg (by omega), if_pos h]
    rw [t, t2]
    simp only [List.append_assoc, List.flatMap_cons, List.flatMap_nil, List.append_nil]
  · have t : (tailC o.kind).enc ⟨o.cidrs, o.status, o.type, o.policy, o.fams, o.ips, o.v4, o.v6, o.bits, o.sel, o.about, o.reason⟩ = eT o.about ++ eT o.reason := by rw [h]; rfl
    have t2 : eTail o = [o.about, o.reason].flatMap eT := by unfold eTail; rw [if_neg (by omega), if_neg (by omega), if_neg (by omega), if_pos h]
    rw [t, t2]
    simp only [List.append_assoc, List.flatMap_cons, List.flatMap_nil, List.append_nil]
theorem fits_of (o : Ob) (h : CodP.shape o = true) : Fits o := by
  simp only [CodP.shape, inR, textsB, labelsB, Bool.and_eq_true, decide_eq_true_eq, List.all_eq_true, List.mem_cons, List.not_mem_nil, or_false, forall_eq_or_imp, forall_eq] at h
  obtain ⟨⟨⟨⟨⟨⟨⟨⟨⟨hk, _⟩, ⟨⟨ht, hp⟩, hb⟩, hf⟩, hu, hv⟩, h1, h2, h3, h4, h5, h6, h7⟩, hfi⟩, hci⟩, hip⟩, hfl⟩, hla⟩ := h
  exact ⟨by omega, h1, hu, hv, ⟨by omega, hfi.2⟩, ⟨by omega, hla.2⟩, ⟨by omega, hci.2⟩, h2, ht, hp, ⟨by omega, hf⟩, ⟨by omega, hip.2⟩, h3, h4, hb, h5, h6, h7⟩
def packS (o : Ob) : ByteArray × Int := if CodP.shape o = true then (bytesS o, 0) else (⟨#[]⟩, 13)
theorem belowB {B b : Nat} {w1 w2 : World} (hB : B ≤ b) (h : Below b w1 w2) : Below B w1 w2 := ⟨h.os, h.tape, h.output, h.size, fun i hi => h.block i (Nat.lt_of_lt_of_le hi hB)⟩
theorem RowR.keep {w : World} {b : Nat} {A : Option Addr} {cs : List Value} (h : RowR w A cs) (hb : w.heap.size ≤ b) : RowK b w A cs := fun j u hj => by
  obtain ⟨ad, h1, h2⟩ := h j u hj
  have := World.block_lt_of_cell? w _ h2
  rw [add_block] at this
  exact ⟨ad, h1, h2, .inl (by omega)⟩
theorem RowsR.keep {w : World} {b : Nat} {o : Ob} {f l c p i : Sl} (h : RowsR w o f l c p i) (hb : w.heap.size ≤ b) : RowsK b w o f l c p i :=
  ⟨h.fr.keep hb, h.lr.keep hb, h.cr.keep hb, h.pr.keep hb, h.ir.keep hb⟩
set_option maxRecDepth 100000 in
set_option maxHeartbeats 4000000 in
theorem pack_any (o : Ob) (f l c p i : Sl) (hs : o.fins.length ≤ 1000000 ∧ o.labels.length ≤ 1000000 ∧ o.cidrs.length ≤ 1000000 ∧ o.fams.length ≤ 1000000 ∧ o.ips.length ≤ 1000000) (w : World) (hr : RowsR w o f l c p i) :
    Calls Try.prog 16 #[.agg (oc o f l c p i)] w fun e w' => e = .returned (.tuple #[.string (packS o).1, .int .i64 (packS o).2]) ∧ Below w.heap.size w w' := by
  obtain ⟨w1, hw1⟩ : ∃ w1, w1 = w.alloc (.cells (oc o f l c p i) 32) := ⟨_, rfl⟩
  have b1 : Below w.heap.size w w1 := by rw [hw1]; exact bel_alloc _ _
  have p1 : w1.heap[w.heap.size]? = some (.cells (oc o f l c p i) 32 (0, 0)) := by rw [hw1]; exact G.heap_new _ _
  obtain ⟨x, hx⟩ : ∃ x, x = w.heap.size := ⟨_, rfl⟩
  rw [← hx] at p1
  have hc := shape_any o f l c p i hs w1 (hr.below b1)
  have HC := Lib.hid hc
  have HR := Lib.hid (hr.below b1)
  have HW := Lib.hid hw1
  have P1 := Lib.hid p1
  have B1 := Lib.hid b1
  clear b1 p1 hw1 hr hs hc
  cases hsh : CodP.shape o
  · have hp : packS o = (⟨#[]⟩, 13) := by unfold packS; rw [hsh]; rfl
    have HP := Lib.hid hp
    rw [hsh] at HC
    clear hp hsh
    go_enter Try.func16, Try.ntmps16
    go_upto_region 1 with (fail)
    rw [← HW.out, ← hx]
    clear hx
    go_wp2_with (first
      | (refine wpList_load_row rfl 32 (.tmp 1) rfl x rfl 32 _ (0, 0) _ P1.out Try.underlying32 rfl size32 ?_)
      | (go_at_call 21; refine HC.out.mono ?_; rintro e w2 ⟨rfl, hb2⟩))
    go_ret2
    exact ⟨by rw [HP.out]; rfl, B1.out.trans (belowLe B1.out.size hb2)⟩
  · have hfit := fits_of o hsh
    have hp : packS o = (bytesS o, 0) := by unfold packS; rw [hsh]; rfl
    have he := enc_ob o hfit.kind
    have HP := Lib.hid hp
    have HE := Lib.hid he
    have HF := Lib.hid hfit
    rw [hsh] at HC
    clear hp hsh hfit he
    go_enter Try.func16, Try.ntmps16
    go_upto_region 1 with (fail)
    rw [← HW.out, ← hx]
    clear hx
    go_upto_region 3 with (first
      | (refine wpList_load_row rfl 32 (.tmp 1) rfl x rfl 32 _ (0, 0) _ P1.out Try.underlying32 rfl size32 ?_)
      | (go_at_call 21; refine HC.out.mono ?_; rintro e w2 ⟨rfl, hb2⟩))
    have p2 := (hb2.block x (Array.getElem?_eq_some_iff.1 P1.out).1).trans P1.out
    obtain ⟨w3, hw3⟩ : ∃ w3, w3 = w2.alloc (.cells #[.pointer none, .slice none 0 0] 77) := ⟨_, rfl⟩
    have b3 : Below w2.heap.size w2 w3 := by rw [hw3]; exact bel_alloc _ _
    have bd3 : Bd 77 w2.heap.size [] w3 := by rw [hw3]; exact Bd.new 77 w2
    have p3 := (b3.block x (Array.getElem?_eq_some_iff.1 p2).1).trans p2
    have r3 : RowsK w2.heap.size w3 o f l c p i := ((HR.out.below hb2).keep (Nat.le_refl _)).fr' (FrB.of_below b3)
    have P3 := Lib.hid p3
    have BD3 := Lib.hid bd3
    have R3 := Lib.hid r3
    have hx1 : w.heap.size ≤ w2.heap.size := Nat.le_trans B1.out.size hb2.size
    have B3 := Lib.hid (show Below w.heap.size w w3 from B1.out.trans (belowLe B1.out.size (G.bthen hb2 b3)))
    have HX1 := Lib.hid hx1
    have HL3 := Lib.hid b3.size
    have HW3 := Lib.hid hw3
    clear p2 b3 bd3 p3 r3 hx1 hw3 hb2
    go_upto_region 4 with (fail)
    rw [← HW3.out]
    obtain ⟨b, hb⟩ : ∃ b, b = w2.heap.size := ⟨_, rfl⟩
    rw [← hb] at BD3 R3 HX1 HL3 ⊢
    clear hb
    go_wp2_with (first
      | (refine wpList_load_row rfl 32 (.tmp 1) rfl x rfl 32 _ (0, 0) _ P3.out Try.underlying32 rfl size32 ?_)
      | (go_at_call 42; refine (wobject_any b [] (by simp) o f l c p i HF.out w3 BD3.out R3.out).mono ?_; rintro e w4 ⟨rfl, hb4, hf4⟩)
      | (go_at_call 43; refine (B.string_any 77 b b ([] ++ (eHead o ++ eTail o)) w4 hb4.builder (by simp [eHead, eB])).mono ?_; rintro e w5 ⟨rfl, hb5⟩))
    go_ret2
    refine ⟨by rw [HP.out]; simp only [bytesS, HE.out, ofBL]; rfl, ?_⟩
    exact (hf4.below B3.out HX1.out (Nat.le_trans HX1.out HL3.out)).trans (belowB HX1.out hb5)
end Go.Proofs.Ytolndeolehkjoaa
