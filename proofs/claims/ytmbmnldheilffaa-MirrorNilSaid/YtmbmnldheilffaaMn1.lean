/- The mirror's example. -/
import Derived.Test.YtmbmnldheilffaaMi10
namespace Go.Proofs.Ytmbmnldheilffaa
set_option linter.unusedVariables false
set_option linter.unusedSimpArgs false
open Go.RowKit
def exIp : ByteArray := ⟨#[49, 48, 46, 48, 46, 48, 46, 49]⟩
def exOb : Ob := { zeroOb with kind := 2, name := ⟨#[115]⟩, ips := [exIp] }
theorem ex_names : names [exOb] 2 exIp = [⟨#[115]⟩] := by
  have h : hasT 2 exIp exOb = true := hasT_iff.2 ⟨rfl, by show exIp ∈ [exIp]; simp⟩
  unfold names
  rw [List.filter_cons, if_pos h]
  rfl
theorem put_ex (B mb : Nat) (d : MD) (w1 : World) (h : MInv B mb d w1) (hR : MR d []) :
    Calls Try.prog 8 #[.pointer (some ⟨mb, 0, none⟩), .agg (oc exOb Sl0 Sl0 Sl0 Sl0 ⟨some ⟨w1.heap.size, 0, none⟩, 1⟩)] (w1.alloc (.cells #[.string exIp] 9)) fun e w' => e = .returned (.bool true) ∧ ∃ d', MStep B mb d (w1.alloc (.cells #[.string exIp] 9)) d' w' ∧ MR d' [exOb] := by
  have hb := bel_alloc w1 (.cells #[.string exIp] 9)
  have hok : OOk (Foot mb d) (w1.alloc (.cells #[.string exIp] 9)) ⟨exOb, Sl0, Sl0, Sl0, Sl0, ⟨some ⟨w1.heap.size, 0, none⟩, 1⟩⟩ := by
    refine ⟨⟨RowR.nil _ _, RowR.nil _ _, RowR.nil _ _, RowR.nil _ _, fun j u hj => ⟨_, rfl, ?_⟩⟩, fun ad ha => ?_, ⟨Nat.zero_le _, Nat.zero_le _, Nat.zero_le _, Nat.zero_le _, show 1 ≤ 1000000 by decide⟩⟩
    · rw [G.add_plain, Nat.zero_add, World.cell?_alloc_new]
      cases j with
      | zero => exact hj
      | succ j =>
        have hj' : [Value.string exIp][j + 1]? = some u := hj
        simp at hj'
    · rcases ha with ha | ha | ha | ha | ha
      · cases ha
      · cases ha
      · cases ha
      · cases ha
      · cases ha
        exact ⟨by simp, fun hf => by have h2 : w1.heap.size < w1.heap.size := h.foot_lt hf; omega⟩
  exact put_any B mb d [] exOb Sl0 Sl0 Sl0 Sl0 ⟨some ⟨w1.heap.size, 0, none⟩, 1⟩ _ (h.below hb) hR hok (by decide)
set_option maxRecDepth 100000 in
set_option maxHeartbeats 2000000 in
theorem awake_any (w : World) : Calls Try.prog 5 #[] w fun e w' => e = .returned (.bool true) ∧ Below w.heap.size w w' := by
  go_enter Try.func5, Try.ntmps5
  go_wp2_with (first | (go_at_call 16; refine (new_any _).mono ?_; rintro e w1 ⟨mb, d, rfl, hI, hR, hb⟩; have HI := Lib.hid hI; have HR := Lib.hid hR; have HB := Lib.hid hb; clear hI hR hb) | (go_at_call 8; refine (put_ex w.heap.size mb d w1 HI.out HR.out).mono ?_; rintro e w2 ⟨rfl, d2, hst, hR2⟩; have HS := Lib.hid hst; have HR2 := Lib.hid hR2; have HH := Lib.hid (show holds d2 (2, exIp) = [⟨#[115]⟩] by rw [hR2.hol]; exact ex_names); clear hst hR2) | (go_at_call 13; go_loud (refine (holders_any w.heap.size mb d2 2 exIp w2 HS.out.inv (by rw [HH.out]; decide)).mono ?_; rw [HH.out]; rintro e w3 ⟨A, c, rfl, ho, hb3⟩; obtain ⟨ad, hA, hc⟩ := rowR_own ho 0 (.string ⟨#[115]⟩) rfl; subst hA; have HB3 := Lib.hid hb3; clear ho hb3; have hc0 : w3.cell? ad = some (.string ⟨#[115]⟩) := by { have e0 : ad.add 0 = ad := by { cases ad; rfl }; rwa [e0] at hc })))
  go_ret
  refine ⟨by first | rfl | decide, ?_⟩
  have b1 := G.bthen HB.out (bel_alloc w1 (.cells #[.string exIp] 9))
  have b2 : Below w.heap.size w w2 := HS.out.fr.below b1 b1.size (fun j hj => by
    have hf : Foot mb d j := hj
    exact HI.out.foot_B hf)
  exact G.bthen b2 HB3.out
end Go.Proofs.Ytmbmnldheilffaa
