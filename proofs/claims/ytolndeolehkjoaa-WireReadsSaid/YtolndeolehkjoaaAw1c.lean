/- The chapter's example. -/
import Derived.Test.YtolndeolehkjoaaPk1c
namespace Go.Proofs.Ytolndeolehkjoaa
set_option linter.unusedVariables false
set_option linter.unusedSimpArgs false
open Go.RowKit CodP
def exN : Ob := ⟨1, ⟨#[110]⟩, 0, 0, false, [], [], [], ⟨#[]⟩, 0, 0, [], [], ⟨#[]⟩, ⟨#[]⟩, 0, ⟨#[]⟩, ⟨#[]⟩, ⟨#[]⟩⟩
def exS : ByteArray := ⟨#[1, 1, 110, 0, 0, 0, 0, 0, 0, 0, 0, 0, 0, 0, 0, 0, 0, 0, 0, 0, 0, 0, 0, 0]⟩
theorem pack_ex : packS exN = (exS, 0) := by kernel_rfl
def z21 : Array Value := (List.replicate 21 (Value.int .u8 0)).toArray
def zer21 : ByteArray := strOfNums (List.replicate 21 0)
set_option maxRecDepth 100000 in
set_option maxHeartbeats 4000000 in
theorem awake_any (w : World) : Calls Try.prog 11 #[] w fun e w' => e = .returned (.bool true) ∧ Below w.heap.size w w' := by
  have hr : ∀ V, RowsR V exN Sl0 Sl0 Sl0 Sl0 Sl0 := fun V => ⟨RowR.nil _ _, RowR.nil _ _, RowR.nil _ _, RowR.nil _ _, RowR.nil _ _⟩
  have hp := pack_any exN Sl0 Sl0 Sl0 Sl0 Sl0 (by simp [exN]) w (hr w)
  rw [pack_ex] at hp
  have HP := Lib.hid hp
  have hcv : ∀ V : World, (convert 67 9 (.slice (some ⟨V.heap.size, 0, none⟩) 21 21)).run Try.prog (V.alloc (.cells z21 5)) = .ok (.string zer21) (V.alloc (.cells z21 5)) := fun V =>
    run_convert_bytes_arg _ 67 5 Try.underlying67 Try.underlying5 V.heap.size 0 21 21 (List.replicate 21 0) rfl (fun i hi => by
      have h := G.heap_new V (.cells z21 5)
      have e1 : (List.replicate 21 (Value.int .u8 0)).toArray[i]? = some (.int .u8 0) := by rw [List.getElem?_toArray, List.getElem?_replicate, if_pos hi]
      have e2 : (List.replicate 21 (0 : Int)).getD i 0 = 0 := by rw [List.getD_eq_getElem?_getD, List.getElem?_replicate, if_pos hi]; rfl
      rw [e2]
      simp only [World.cell?, h, Nat.zero_add]
      exact e1) 9 Try.underlying9
  have hz : zer21.size = 21 := by kernel_rfl
  have hq : (exS.toList == (⟨#[1, 1, 110]⟩ ++ zer21 : ByteArray).toList) = true := by kernel_rfl
  have hms : ∀ V : World, (Instr.makeSlice 67 (.int .i64 21) (.int .i64 21)).run Try.prog V = .ok (.slice (some ⟨V.heap.size, 0, none⟩) 21 21) (V.alloc (.cells z21 5)) := fun V => by kernel_rfl
  have hadd := hz
  clear hp hr hadd
  go_enter Try.func11, Try.ntmps11
  go_wp2_with (fail)
  refine HP.out.mono ?_
  rintro e w1 ⟨rfl, hb⟩
  go_wp2
  go_ret
  exact ⟨rfl, G.bthen hb (bel_alloc _ _)⟩
end Go.Proofs.Ytolndeolehkjoaa
