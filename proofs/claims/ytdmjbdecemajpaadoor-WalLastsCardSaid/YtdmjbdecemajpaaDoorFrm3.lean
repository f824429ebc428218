/- The walks of package frame: Whole, Scan, Unpack, and the reference's Scan and Same. -/
import Derived.Test.YtdmjbdecemajpaaDoorFrmPure
import Derived.Test.YtdmjbdecemajpaaDoorGen
namespace Go.Proofs.YtdmjbdecemajpaaDoor
open Go.RowKit SumP
theorem info9 : (Tryd.prog.info? 9).map (fun i => (i.zero, i.size, i.bytes)) = some (some (.string ByteArray.empty), 1, 16) := by kernel_rfl
def strs (l : List ByteArray) : List Value := l.map Value.string
theorem strs_length (l : List ByteArray) : (strs l).length = l.length := by simp [strs]
theorem strs_append (l m : List ByteArray) : strs (l ++ m) = strs l ++ strs m := by simp [strs]
theorem one_str (b : ByteArray) : ∀ u ∈ [Value.string b], u.oneCell' = true := by intro u hu; simp only [List.mem_singleton] at hu; subst hu; rfl
theorem fBody_size {s : ByteArray} (h : fOk s = true) : (fBody s).size = fN s := by
  have := fOk_fits h
  unfold fBody; rw [ex_size] <;> omega

set_option maxRecDepth 100000 in
set_option maxHeartbeats 400000 in
theorem scan_any (s : ByteArray) (hs : s.size ≤ 100000) (w : World) (hT : Hid (TabOf w)) :
    Calls Tryd.prog 24 #[.string s] w fun e w' => ∃ v, e = .returned (.tuple #[v, .int .i64 (scan s).2]) ∧ G.HasRow w' 1 v (scan s).1.length (strs (scan s).1) ∧ Below w.heap.size w w' := by
  go_enter Tryd.func24, Tryd.ntmps24
  go_wp2
  go_loopw [4, 5] (fun v i wr => ∃ (ls : List ByteArray) (k : Nat), i = .int .i64 k ∧ wr.ownsRow w.heap.size 9 1 v ls.length (strs ls) ∧ Below w.heap.size w wr ∧ Hid (Scanned s ls k)) (fun _ i _ => s.size - (intOf i).toNat)
  case atStart => exact ⟨[], 0, rfl, G.owns_nil _ _ _ _, Below.refl _ _, Lib.hid (Scanned.start s)⟩
  case round =>
    obtain ⟨ls, k, rfl, hown, hb, H⟩ := hrel
    obtain ⟨hk, hlk, _⟩ := H.out
    have hT1 : Hid (TabOf wr) := Lib.hid (TabOf.below hT.out hb)
    have hz : (s.extract k s.size).size ≤ 140737488351232 := by rw [ex_size] <;> omega
    by_cases ho : fOk (fromAt s k) = true
    · have c := fun W hT => first_yes (fromAt s k) (by unfold fromAt; exact hz) W hT ho
      have hfit := fOk_fits ho
      have hbs := fBody_size ho
      have hnext := H.out.next ho
      rw [fromAt_size s k hk] at hfit
      obtain ⟨b, hbb⟩ : ∃ b, b = fBody (fromAt s k) := ⟨_, rfl⟩
      rw [← hbb] at c hbs hnext
      obtain ⟨q, hq⟩ : ∃ q, q = k + 8 + fN (fromAt s k) := ⟨_, rfl⟩
      have hbz : b.size ≤ 140737488351232 := by omega
      have hbq : (b.size : Int) = q - k - 8 := by omega
      have hqs : q ≤ s.size := by omega
      have hkq : k + 8 ≤ q := by omega
      rw [← hq] at hnext
      unfold fromAt at c
      have C := Lib.hid c
      have Hnext := Lib.hid hnext
      have Hbq := Lib.hid hbq
      have hqb : (b.size : Int) + 8 + k ≤ 100000 := by omega
      clear c hnext hbq ho hfit hbs hbb hq
      have hlb : Hid (w.heap.size ≤ wr.heap.size) := Lib.hid hb.size
      have hl63 : ls.length + 1 ≤ maxLen := by unfold maxLen; omega
      have hl16 : (ls.length + 1) * 16 ≤ 140737488355328 := by omega
      go_wp2_with (first
        | (go_at_call 47; refine Calls.mono (C.out _ hT1) ?_; rintro e w1 ⟨rfl, hb1⟩)
        | (at_builtin; refine G.app_one rfl _ _ 41 9 rfl w.heap.size 1 16 _ Tryd.underlying41 info9 rfl (by decide) _ _ _ _ rfl rfl rfl (one_str _) (G.owns_below hown hb1) (Nat.le_trans hlb.out hb1.size) hl63 hl16 ?_; intro v1 w2 hown2 hg2)
        | (go_at_call 21; refine (size_any _ hbz _).mono ?_; rintro e w3 ⟨rfl, rfl⟩))
      go_roundw
      case rel =>
        refine ⟨ls ++ [b], q, ?_, ?_, ?_, Hnext⟩
        · have := Hbq.out
          exact congrArg (Value.int .i64) (by omega)
        · rw [strs_append, List.length_append]; exact hown2
        · exact G.below_grown (G.bthen' hb hlb.out hb1) (Nat.le_trans hlb.out hb1.size) (G.owns_below hown hb1) hg2
      case measure => have := Hbq.out; simp [intOf]; omega
    · have hno : fOk (fromAt s k) = false := by simpa using ho
      have c := fun W hT => first_no (fromAt s k) (by unfold fromAt; exact hz) W hT hno
      unfold fromAt at c
      have C := Lib.hid c
      clear c ho
      have hfin := H.out.stop hno
      have Hfin := Lib.hid hfin
      clear hfin hno
      go_wp2_with (go_at_call 47; refine Calls.mono (C.out _ hT1) ?_; rintro e w1 ⟨b, rfl, hb1⟩)
      go_ret2
      refine ⟨u4, ?_, ?_, ?_⟩
      · rw [Hfin.out]; rfl
      · rw [Hfin.out]; exact (G.HasRow.of_owns hown).below hb1
      · exact G.bthen' hb hb.size hb1
end Go.Proofs.YtdmjbdecemajpaaDoor
