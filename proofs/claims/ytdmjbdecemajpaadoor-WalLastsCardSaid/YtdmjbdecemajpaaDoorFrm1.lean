/- The walks of package frame: a record's frame, and the reference's. -/
import Derived.Test.YtdmjbdecemajpaaDoorSumLaws
namespace Go.Proofs.YtdmjbdecemajpaaDoor
open Go.RowKit SumP
/-- a record's frame -/
def frm (s : ByteArray) : ByteArray := layS s.size ++ layS (onN 0 (layS s.size ++ s)) ++ s
theorem frm_size (s : ByteArray) : (frm s).size = 8 + s.size := by simp [frm, ByteArray.size_append, layS_size]
set_option maxHeartbeats 400000 in
theorem length_any (n : Nat) (hn : n < 4294967296) (w : World) :
    Calls Tryd.prog 46 #[.int .i64 n] w fun e w' => e = .returned (.string (layS n)) ∧ Below w.heap.size w w' := by
  go_enter Tryd.func46, Tryd.ntmps46
  go_wp2_with (go_at_call 16; refine (lay_any n hn _).mono ?_; rintro e w1 ⟨rfl, hb1⟩)
  go_ret
  exact ⟨rfl, hb1⟩
set_option maxHeartbeats 400000 in
theorem size_any (s : ByteArray) (hs : s.size ≤ 140737488351232) (w : World) :
    Calls Tryd.prog 21 #[.string s] w fun e w' => e = .returned (.int .i64 ((s.size : Int) + 8)) ∧ w = w' := by
  go_enter Tryd.func21, Tryd.ntmps21
  go_wp2
  go_ret
  exact ⟨ret_int (by omega), rfl⟩
set_option maxHeartbeats 400000 in
theorem fOf_any (s : ByteArray) (hs : s.size ≤ 65536) (w : World) (hT : Hid (TabOf w)) :
    Calls Tryd.prog 20 #[.string s] w fun e w' => e = .returned (.tuple #[.string (frm s), .int .i64 0]) ∧ Below w.heap.size w w' := by
  have z1 : (layS s.size).size ≤ 4 := by rw [layS_size]; omega
  have z2 : (layS (onN 0 (layS s.size ++ s))).size ≤ 4 := by rw [layS_size]; omega
  have z3 : (layS s.size ++ s).size ≤ 140737488351232 := by rw [ByteArray.size_append]; omega
  have z4 : (layS s.size ++ layS (onN 0 (layS s.size ++ s))).size ≤ 8 := by rw [ByteArray.size_append]; omega
  have z5 := onN_lt 0 (layS s.size ++ s)
  go_enter Tryd.func20, Tryd.ntmps20
  go_wp2_with (first
    | (go_at_call 46; refine (length_any s.size (by omega) _).mono ?_; rintro e w1 ⟨rfl, hb1⟩; have hT1 : Hid (TabOf w1) := Lib.hid (TabOf.below hT.out hb1))
    | (go_at_call 13; refine (of_any _ z3 _ hT1).mono ?_; rintro e w2 ⟨rfl, rfl⟩)
    | (go_at_call 16; refine (lay_any _ z5 _).mono ?_; rintro e w3 ⟨rfl, hb3⟩))
  go_ret2
  exact ⟨rfl, below_then hb1 hb3⟩
set_option maxHeartbeats 400000 in
theorem fOf_long (s : ByteArray) (hs : 65536 < s.size) (hs2 : s.size ≤ 140737488351232) (w : World) :
    Calls Tryd.prog 20 #[.string s] w fun e w' => e = .returned (.tuple #[.string ⟨#[]⟩, .int .i64 5]) ∧ w = w' := by
  go_enter Tryd.func20, Tryd.ntmps20
  go_wp2
  go_ret2
  exact ⟨rfl, rfl⟩
set_option maxHeartbeats 400000 in
theorem refOf_any (s : ByteArray) (hs : s.size ≤ 100000) (w : World) :
    Calls Tryd.prog 23 #[.string s] w fun e w' => e = .returned (.string (frm s)) ∧ Below w.heap.size w w' := by
  have z1 : (layS s.size).size ≤ 4 := by rw [layS_size]; omega
  have z2 : (layS (onN 0 (layS s.size ++ s))).size ≤ 4 := by rw [layS_size]; omega
  have z3 : (layS s.size ++ s).size ≤ 140737488351232 := by rw [ByteArray.size_append]; omega
  have z4 : (layS s.size ++ layS (onN 0 (layS s.size ++ s))).size ≤ 8 := by rw [ByteArray.size_append]; omega
  have z5 := onN_lt 0 (layS s.size ++ s)
  go_enter Tryd.func23, Tryd.ntmps23
  go_wp2_with (first
    | (go_at_call_of 18 (Value.int .u32 (s.size : Int)); refine (refLay_any s.size (by omega) _).mono ?_; rintro e w1 ⟨rfl, hb1⟩)
    | (go_at_call 14; refine (refOn_any 0 (by omega) _ z3 _).mono ?_; rintro e w2 ⟨rfl, rfl⟩)
    | (go_at_call 18; refine (refLay_any _ z5 _).mono ?_; rintro e w3 ⟨rfl, hb3⟩))
  go_ret
  exact ⟨rfl, below_then hb1 hb3⟩
end Go.Proofs.YtdmjbdecemajpaaDoor
