/- Responses: the plain law: what is packed is unpacked as it was, what is unpacked has these bytes. No program. -/
import Derived.Test.YtolndeolehkjoaaWp2d
namespace Go.Proofs.Ytolndeolehkjoaa
set_option linter.unusedVariables false
set_option linter.unusedSimpArgs false
open Go.RowKit CodP
def from1 (s : ByteArray) : ByteArray := s.extract 1 s.size
theorem ix0 (s : ByteArray) (h : 0 < s.size) (W : World) : (Instr.index 9 (.string s) (.int .i64 0)).run Try.prog W = .ok (.int .u8 (byte0 s)) W := by
  have e := byte0_at s h
  rw [run_index_string (P := Try.prog) (w := W) 9 s .i64 0 Try.underlying9, dif_pos ⟨by omega, by omega⟩, ← e]
  rfl
theorem sl1 (s : ByteArray) (l : Int) (a : Nat) (ha : l = a) (h : a ≤ s.size) (W : World) : (Instr.slice 9 (.string s) (some (.int .i64 l)) none none).run Try.prog W = .ok (.string (s.extract a s.size)) W := by
  subst ha
  have := run_slice_string_l (P := Try.prog) (w := W) (t := 9) (s := s) Try.underlying9 .i64 (a : Int) (by omega) (by omega)
  simpa using this
theorem byte0_bB (n : Int) (t : ByteArray) (h0 : 0 ≤ n) (h : n ≤ 255) : byte0 (bB n ++ t) = n := by
  unfold byte0
  rw [BL_append, BL_bB]
  show (((UInt8.ofNat n.toNat).toNat : Nat) : Int) = n
  rw [UInt8.toNat_ofNat']
  omega
theorem from1_bB (n : Int) (t : ByteArray) : from1 (bB n ++ t) = t := by
  apply BL_inj
  rw [from1, BL_extract, ← BL_length, List.take_length, BL_append, BL_bB]
  rfl
theorem pos_bB (n : Int) (t : ByteArray) : ¬ (bB n ++ t).size = 0 := by rw [ByteArray.size_append, bB_size]; omega
theorem from1_size (s : ByteArray) : (from1 s).size = s.size - 1 := by unfold from1; rw [ByteArray.size_extract]; omega
theorem split1 (s : ByteArray) (h : ¬ s.size = 0) : s = bB (byte0 s) ++ from1 s := by
  apply BL_inj
  rw [BL_append, BL_bB, from1, BL_extract, ← BL_length, List.take_length]
  have hl := BL_length s
  unfold byte0
  cases hb : BL s with
  | nil => rw [hb] at hl; simp at hl; omega
  | cons b l => simp [eB]
theorem numOf_num8' (m : Nat) (hm : m ≤ 1099511627776) : numOf (num8 m) = ((m : Int), 0) := by
  unfold numOf
  rw [if_neg (by rw [num8_size]; omega), be8_num8 m (by omega), if_neg (by omega)]
theorem numOf_ok' (s : ByteArray) (h : (numOf s).2 = 0) : 0 ≤ (numOf s).1 ∧ num8 (numOf s).1.toNat = s := by
  unfold numOf at h ⊢
  by_cases h8 : s.size ≠ 8
  · rw [if_pos h8] at h; simp at h
  rw [if_neg h8] at h ⊢
  by_cases hb : be8 s > 4611686018427387904
  · rw [if_pos hb] at h; simp at h
  · rw [if_neg hb]
    exact ⟨by simp, by rw [show ((be8 s : Int), (0 : Int)).1.toNat = be8 s by simp]; exact num8_be8 s (by omega)⟩
def bytesRp (p : Rp) : ByteArray := bB p.err ++ num8 p.ver.toNat ++ bytesAll p.l
def zeroRp : Rp := ⟨0, 0, []⟩
def packRp (p : Rp) : ByteArray × Int := if rightRp p = true then (bytesRp p, 0) else (⟨#[]⟩, 4)
def numS (s : ByteArray) : ByteArray := s.extract 1 9
def objS (s : ByteArray) : ByteArray := s.extract 9 s.size
def unpackRp (s : ByteArray) : Rp × Int :=
  if s.size < 9 then (zeroRp, 4)
  else match allS (objS s) with
    | none => (zeroRp, 4)
    | some l => if (numOf (numS s)).2 = 0 ∧ rightRp ⟨byte0 s, (numOf (numS s)).1, l⟩ = true then (⟨byte0 s, (numOf (numS s)).1, l⟩, 0) else (zeroRp, 4)
structure RightP (p : Rp) : Prop where
  err : 0 ≤ p.err ∧ p.err ≤ 255
  ver : 0 ≤ p.ver ∧ p.ver ≤ 1099511627776
  shape : ∀ o ∈ p.l, CodP.shape o = true
  len : p.l.length ≤ 200
theorem rightP {p : Rp} (h : rightRp p = true) : RightP p := by
  unfold rightRp at h
  simp only [Bool.and_eq_true] at h
  obtain ⟨h1, h2, h3, h4, h5⟩ := h
  exact ⟨of_decide_eq_true h1, of_decide_eq_true h2, List.all_eq_true.1 h3, of_decide_eq_true h4⟩
theorem rp_join (s : ByteArray) (h : ¬ s.size < 9) : s = bB (byte0 s) ++ numS s ++ objS s ∧ (numS s).size = 8 := by
  have hs := split1 s (by omega)
  have hz : (numS s).size = 8 := by unfold numS; rw [ByteArray.size_extract]; omega
  refine ⟨?_, hz⟩
  have hf : from1 s = numS s ++ objS s := by
    apply BL_inj
    rw [BL_append, numS, objS, from1, BL_extract, BL_extract, BL_extract, ← BL_length, List.take_length]
    cases hb : BL s with
    | nil => simp
    | cons b l =>
      simp only [List.take_succ_cons, List.drop_succ_cons, List.drop_zero]
      rw [List.take_append_drop]
  rw [CodP.append_assoc3, ← hf]
  exact hs
theorem rp_cases (s : ByteArray) : (unpackRp s = (zeroRp, 4)) ∨ (¬ s.size < 9 ∧ ∃ l, allS (objS s) = some l ∧ (numOf (numS s)).2 = 0 ∧ rightRp ⟨byte0 s, (numOf (numS s)).1, l⟩ = true ∧ unpackRp s = (⟨byte0 s, (numOf (numS s)).1, l⟩, 0)) := by
  by_cases h9 : s.size < 9
  · exact .inl (if_pos h9)
  cases ha : allS (objS s) with
  | none => left; unfold unpackRp; rw [if_neg h9, ha]
  | some l =>
    by_cases hc : (numOf (numS s)).2 = 0 ∧ rightRp ⟨byte0 s, (numOf (numS s)).1, l⟩ = true
    · right
      refine ⟨h9, l, rfl, hc.1, hc.2, ?_⟩
      unfold unpackRp
      rw [if_neg h9, ha]
      exact if_pos hc
    · left
      unfold unpackRp
      rw [if_neg h9, ha]
      exact if_neg hc
theorem rp_ok (s : ByteArray) (h : (unpackRp s).2 = 0) : rightRp (unpackRp s).1 = true ∧ bytesRp (unpackRp s).1 = s := by
  rcases rp_cases s with e | ⟨h9, l, ha, hn, hr, e⟩
  · rw [e] at h; simp at h
  · rw [e]
    refine ⟨hr, ?_⟩
    obtain ⟨hj, _⟩ := rp_join s h9
    obtain ⟨_, hv⟩ := numOf_ok' _ hn
    obtain ⟨_, hb⟩ := allS_ok _ _ _ (Nat.le_refl _) ha
    unfold bytesRp
    show bB (byte0 s) ++ num8 (numOf (numS s)).1.toNat ++ bytesAll l = s
    rw [hv, hb]
    exact hj.symm
theorem rp_bad (s : ByteArray) (h : (unpackRp s).2 ≠ 0) : unpackRp s = (zeroRp, 4) := by
  rcases rp_cases s with e | ⟨_, _, _, _, _, e⟩
  · exact e
  · rw [e] at h; exact absurd rfl h
end Go.Proofs.Ytolndeolehkjoaa
