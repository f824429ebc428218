/- The walk of the reference's Scan. -/
import Derived.Test.YtdmjbdecemajpaaDoorFrm3
import Derived.Deep.RegionHeld3
namespace Go.Proofs.YtdmjbdecemajpaaDoor
open Go.RowKit SumP
theorem toList_BL (s : ByteArray) : s.toList = BL s := by
  exact ByteArray.toList_eq s
theorem str_same {a b : ByteArray} (h : a = b) : (a.toList == b.toList) = true := by subst h; simp
theorem str_other {a b : ByteArray} (h : a ≠ b) : (a.toList == b.toList) = false := by
  rw [beq_eq_false_iff_ne]
  intro he
  rw [toList_BL, toList_BL] at he
  exact h (BL_inj he)
theorem from_ex (s : ByteArray) (k a b : Nat) (_ : k + b ≤ s.size) : (fromAt s k).extract a b = s.extract (k + a) (k + b) := by
  apply BL_inj
  unfold fromAt
  rw [BL_extract, BL_extract, BL_extract, ← BL_length s, List.take_length, List.drop_take, List.drop_take, List.drop_drop]
  congr 1; omega
theorem from_split (s : ByteArray) (k m : Nat) (h1 : k ≤ m) (_ : m ≤ s.size) : fromAt s k = s.extract k m ++ fromAt s m := by
  apply BL_inj
  unfold fromAt
  rw [BL_append, BL_extract, BL_extract, BL_extract, ← BL_length s, List.take_length, List.drop_take]
  have e : (BL s).drop m = ((BL s).drop k).drop (m - k) := by rw [List.drop_drop]; congr 1; omega
  rw [e, List.take_append_drop]
theorem nb_ex (s : ByteArray) (a b i : Nat) (h : a + i < b) (h2 : b ≤ s.size) : (nb (s.extract a b)).getD i 0 = (s[a + i]'(by omega)).toNat := by
  have hz : i < (s.extract a b).size := by rw [ex_size] <;> omega
  rw [nb_getD _ _ hz]
  congr 1
  exact ByteArray.getElem_extract ..
theorem fN_at (s : ByteArray) (k : Nat) (h : k + 8 ≤ s.size) : fN (fromAt s k) = (s[k]'(by omega)).toNat + 256 * (s[k + 1]'(by omega)).toNat + 65536 * (s[k + 2]'(by omega)).toNat + 16777216 * (s[k + 3]'(by omega)).toNat := by
  unfold fN
  rw [from_ex s k 0 4 (by omega)]
  unfold rdN
  rw [nb_ex s _ _ 0 (by omega) (by omega), nb_ex s _ _ 1 (by omega) (by omega), nb_ex s _ _ 2 (by omega) (by omega), nb_ex s _ _ 3 (by omega) (by omega)]
  rfl
theorem fBody_at (s : ByteArray) (k : Nat) (h : k + 8 + fN (fromAt s k) ≤ s.size) : fBody (fromAt s k) = s.extract (k + 8) (k + 8 + fN (fromAt s k)) := by
  unfold fBody
  rw [from_ex s k _ _ (by omega), ← Nat.add_assoc]
/-- what the reference asks -/
theorem ok_iff (s : ByteArray) (k : Nat) (h8 : k + 8 ≤ s.size) : fOk (fromAt s k) = true ↔ fN (fromAt s k) ≤ 65536 ∧ k + 8 + fN (fromAt s k) ≤ s.size ∧
    frm (s.extract (k + 8) (k + 8 + fN (fromAt s k))) = s.extract k (k + 8 + fN (fromAt s k)) := by
  constructor
  · intro h
    have hf := fOk_fits h
    rw [fromAt_size s k (by omega)] at hf
    have h3 : k + 8 + fN (fromAt s k) ≤ s.size := by omega
    refine ⟨hf.2.1, h3, ?_⟩
    rw [← fBody_at s k h3, ← frm_of_ok h, from_ex s k _ _ (by omega), Nat.add_zero, Nat.add_assoc]
  · rintro ⟨h1, h2, h3⟩
    have hs := from_split s k (k + 8 + fN (fromAt s k)) (by omega) h2
    rw [← h3] at hs
    rw [hs]
    exact fOk_frm _ _ (by rw [ex_size] <;> omega)
theorem ixs (s : ByteArray) (k : Nat) (i : Int) (hk : k < s.size) (hi : i = k) : ∃ x : Nat, x = (s[k]'hk).toNat ∧ x < 256 ∧ ∀ W, (Instr.index 9 (.string s) (.int .i64 i)).run Tryd.prog W = .ok (.int .u8 (x : Int)) W := by
  subst hi
  refine ⟨s[k].toNat, rfl, s[k].toNat_lt, fun W => ?_⟩
  simp [go_sem, Tryd.underlying9, hk]
theorem w64 (a : Int) (h0 : 0 ≤ a) (h : a ≤ 9223372036854775807) : IntKind.i64.wrap a = a := by rw [IntKind.wrap_i64]; omega
set_option maxRecDepth 100000 in
set_option maxHeartbeats 2000000 in
theorem refScan_any (s : ByteArray) (hs : s.size ≤ 100000) (w : World) :
    Calls Tryd.prog 25 #[.string s] w fun e w' => ∃ v, e = .returned (.tuple #[v, .int .i64 (scan s).2]) ∧ G.HasRow w' 1 v (scan s).1.length (strs (scan s).1) ∧ Below w.heap.size w w' := by
  go_enter Tryd.func25, Tryd.ntmps25
  go_wp2
  go_loopw [4, 5] (fun v i wr => ∃ (ls : List ByteArray) (k : Nat), i = .int .i64 k ∧ wr.ownsRow w.heap.size 9 1 v ls.length (strs ls) ∧ Below w.heap.size w wr ∧ Hid (Scanned s ls k)) (fun _ i _ => s.size - (intOf i).toNat)
  case atStart =>
    refine ⟨[], 0, rfl, ?_, (Below.refl _ _).alloc (Nat.le_refl _) _, Lib.hid (Scanned.start s)⟩
    exact ⟨by simp [strs], .inr ⟨w.heap.size, 0, #[], rfl, Nat.le_refl _, G.heap_new _ _, by simp, by decide, by simp, by simp [strs]⟩⟩
  case round =>
    obtain ⟨ls, k, rfl, hown, hb, H⟩ := hrel
    obtain ⟨hk, hlk, hx⟩ := H.out
    clear hx
    have hlb : Hid (w.heap.size ≤ wr.heap.size) := Lib.hid hb.size
    by_cases h8 : k + 8 ≤ s.size
    · have a1 := w64 ((k : Int) + 1) (by omega) (by omega)
      have a2 := w64 ((k : Int) + 2) (by omega) (by omega)
      have a3 := w64 ((k : Int) + 3) (by omega) (by omega)
      obtain ⟨x0, q0, hx0, i0⟩ := ixs s k (k : Int) (by omega) rfl
      obtain ⟨x1, q1, hx1, i1⟩ := ixs s (k + 1) ((k : Int) + 1) (by omega) (by omega)
      obtain ⟨x2, q2, hx2, i2⟩ := ixs s (k + 2) ((k : Int) + 2) (by omega) (by omega)
      obtain ⟨x3, q3, hx3, i3⟩ := ixs s (k + 3) ((k : Int) + 3) (by omega) (by omega)
      have c0 := w64 (x0 : Int) (by omega) (by omega)
      have c1 := w64 (x1 : Int) (by omega) (by omega)
      have c2 := w64 (x2 : Int) (by omega) (by omega)
      have c3 := w64 (x3 : Int) (by omega) (by omega)
      obtain ⟨y1, hy1⟩ : ∃ y, y = 256 * x1 := ⟨_, rfl⟩
      have d1 : IntKind.i64.wrap (256 * (x1 : Int)) = (y1 : Int) := by rw [w64] <;> omega
      obtain ⟨y2, hy2⟩ : ∃ y, y = 65536 * x2 := ⟨_, rfl⟩
      have d2 : IntKind.i64.wrap (65536 * (x2 : Int)) = (y2 : Int) := by rw [w64] <;> omega
      obtain ⟨y3, hy3⟩ : ∃ y, y = 16777216 * x3 := ⟨_, rfl⟩
      have d3 : IntKind.i64.wrap (16777216 * (x3 : Int)) = (y3 : Int) := by rw [w64] <;> omega
      obtain ⟨z1, hz1⟩ : ∃ y, y = x0 + y1 := ⟨_, rfl⟩
      have e1 : IntKind.i64.wrap ((x0 : Int) + y1) = (z1 : Int) := by rw [w64] <;> omega
      obtain ⟨z2, hz2⟩ : ∃ y, y = z1 + y2 := ⟨_, rfl⟩
      have e2 : IntKind.i64.wrap ((z1 : Int) + y2) = (z2 : Int) := by rw [w64] <;> omega
      obtain ⟨n, hn⟩ : ∃ y, y = z2 + y3 := ⟨_, rfl⟩
      have e3 : IntKind.i64.wrap ((z2 : Int) + y3) = (n : Int) := by rw [w64] <;> omega
      have hnN : fN (fromAt s k) = n := by rw [fN_at s k h8, ← q0, ← q1, ← q2, ← q3]; omega
      have hnmax : n < 4294967296 := by omega
      have hiff := ok_iff s k h8
      have hnext := fun h => H.out.next (s := s) (ls := ls) (i := k) h
      have hstop := fun h => H.out.stop (s := s) (ls := ls) (i := k) h
      rw [hnN] at hiff hnext
      have hbd : k + 8 + n ≤ s.size → fBody (fromAt s k) = s.extract (k + 8) (k + 8 + n) := fun h => by rw [fBody_at s k (by omega), hnN]
      have Hiff := Lib.hid hiff
      have Hnext := Lib.hid hnext
      have Hstop := Lib.hid hstop
      have Hbd := Lib.hid hbd
      clear hy1 hy2 hy3 hz1 hz2 hn q0 q1 q2 q3 hnN hiff hnext hstop hbd
      have a8 := w64 ((k : Int) + 8) (by omega) (by omega)
      go_wp2
      go_quiet (fail)
      by_cases hw : 65536 < n
      · have hw' : decide ((65536 : Int) < (n : Int)) = true := by simp; omega
        have hfin : scan s = (ls, k) := Hstop.out (by
          cases ho : fOk (fromAt s k) with
          | false => rfl
          | true => have := Hiff.out.1 ho; omega)
        have Hfin := Lib.hid hfin
        clear hfin Hstop Hiff Hnext Hbd
        go_wp2
        go_quiet (fail)
        go_wp2
        go_ret2
        refine ⟨u4, by rw [Hfin.out]; rfl, by rw [Hfin.out]; exact (G.HasRow.of_owns hown).below (G.bdrewN (G.bdrewN (Below.refl _ _) _) _), G.bdrewN (G.bdrewN hb _) _⟩
      · have a9 := w64 ((k : Int) + 8 + n) (by omega) (by omega)
        have hw' : decide ((65536 : Int) < (n : Int)) = false := by simp; omega
        by_cases hf : s.size < k + 8 + n
        · have hf' : decide ((s.size : Int) < (k : Int) + 8 + n) = true := by simp; omega
          have hfin : scan s = (ls, k) := Hstop.out (by
            cases ho : fOk (fromAt s k) with
            | false => rfl
            | true => have := Hiff.out.1 ho; omega)
          have Hfin := Lib.hid hfin
          clear hfin Hstop Hiff Hnext Hbd
          go_wp2
          go_quiet (fail)
          go_wp2
          go_ret2
          refine ⟨u4, by rw [Hfin.out]; rfl, by rw [Hfin.out]; exact (G.HasRow.of_owns hown).below (G.bdrewN (G.bdrewN (Below.refl _ _) _) _), G.bdrewN (G.bdrewN hb _) _⟩
        · have hf' : decide ((s.size : Int) < (k : Int) + 8 + n) = false := by simp; omega
          have s1 := slc s ((k : Int) + 8) ((k : Int) + 8 + n) (k + 8) (k + 8 + n) (by omega) (by omega) (by omega) (by omega)
          have s2 := slc s (k : Int) ((k : Int) + 8 + n) k (k + 8 + n) (by omega) (by omega) (by omega) (by omega)
          have hz : (s.extract (k + 8) (k + 8 + n)).size ≤ 100000 := by rw [ex_size] <;> omega
          by_cases hq : frm (s.extract (k + 8) (k + 8 + n)) = s.extract k (k + 8 + n)
          · have hq' := str_same hq
            have hnx := Hnext.out (Hiff.out.2 ⟨by omega, by omega, hq⟩)
            rw [Hbd.out (by omega)] at hnx
            have Hnx := Lib.hid hnx
            have hl63 : ls.length + 1 ≤ maxLen := by unfold maxLen; omega
            have hl16 : (ls.length + 1) * 16 ≤ 140737488355328 := by omega
            clear hnx hq Hstop Hiff Hnext Hbd
            go_wp2
            go_region_held3 (fun _ => True) (trivial) ((go_at_call 23; refine (refOf_any _ hz _).mono ?_; rintro e w1 ⟨rfl, hb0⟩; have hb1 : Below wr.heap.size wr w1 := G.undraw hb0; clear hb0))
            go_wp2_with (at_builtin; refine G.app_one rfl _ _ 41 9 rfl w.heap.size 1 16 _ Tryd.underlying41 info9 rfl (by decide) _ _ _ _ rfl rfl rfl (one_str _) (G.owns_below hown hb1) (Nat.le_trans hlb.out hb1.size) hl63 hl16 ?_; intro v1 w2 hown2 hg2)
            go_roundw
            case rel =>
              refine ⟨ls ++ [s.extract (k + 8) (k + 8 + n)], k + 8 + n, rfl, ?_, ?_, Hnx⟩
              · rw [strs_append, List.length_append]; exact hown2
              · exact G.below_grown (G.bthen' hb hlb.out hb1) (Nat.le_trans hlb.out hb1.size) (G.owns_below hown hb1) hg2
            case measure => simp [intOf]; omega
          · have hq' := str_other hq
            have hfin : scan s = (ls, k) := Hstop.out (by
              cases ho : fOk (fromAt s k) with
              | false => rfl
              | true => exact absurd (Hiff.out.1 ho).2.2 hq)
            have Hfin := Lib.hid hfin
            clear hfin hq Hstop Hiff Hnext Hbd
            go_wp2
            go_region_held3 (fun _ => True) (trivial) ((go_at_call 23; refine (refOf_any _ hz _).mono ?_; rintro e w1 ⟨rfl, hb0⟩; have hb1 : Below wr.heap.size wr w1 := G.undraw hb0; clear hb0))
            go_wp2
            go_ret2
            refine ⟨u4, by rw [Hfin.out]; rfl, by rw [Hfin.out]; exact (G.HasRow.of_owns hown).below hb1, G.bthen' hb hlb.out hb1⟩
    · have hfin : scan s = (ls, k) := H.out.stop (by
        cases ho : fOk (fromAt s k) with
        | false => rfl
        | true => have hf := fOk_fits ho; rw [fromAt_size s k hk] at hf; omega)
      have Hfin := Lib.hid hfin
      clear hfin
      go_wp2
      go_ret2
      refine ⟨u4, by rw [Hfin.out]; rfl, by rw [Hfin.out]; exact G.HasRow.of_owns hown, hb⟩
end Go.Proofs.YtdmjbdecemajpaaDoor
