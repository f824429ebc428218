/- How long an object's bytes are. -/
import Derived.Test.YtolndeolehkjoaaPk1c
namespace Go.Proofs.Ytolndeolehkjoaa
set_option linter.unusedVariables false
set_option linter.unusedSimpArgs false
open CodP
theorem fm_len {T : Type} (f : T → List UInt8) (m : Nat) : ∀ (l : List T), (∀ x ∈ l, (f x).length ≤ m) → (l.flatMap f).length ≤ l.length * m
  | [], _ => by simp
  | a :: l, h => by
      have h1 := h a (by simp)
      have h2 := fm_len f m l fun x hx => h x (by simp [hx])
      rw [List.flatMap_cons, List.length_append, List.length_cons, Nat.add_mul]
      omega
theorem eT_le (s : ByteArray) (h : s.size ≤ 200) : (eT s).length ≤ 201 := by rw [eT_len]; omega
theorem eP_le (x : ByteArray × ByteArray) (h : x.1.size ≤ 200 ∧ x.2.size ≤ 200) : (eP x).length ≤ 402 := by
  have e : eP x = eT x.1 ++ eT x.2 := rfl
  rw [e, List.length_append, eT_len, eT_len]; omega
theorem bytesS_le (o : Ob) (h : CodP.shape o = true) : (bytesS o).size ≤ 20000 := by
  have hf := fits_of o h
  rw [bytesS_size, enc_ob o hf.kind, List.length_append]
  simp only [CodP.shape, inR, textsB, labelsB, Bool.and_eq_true, decide_eq_true_eq, List.all_eq_true, List.mem_cons, List.not_mem_nil, or_false, forall_eq_or_imp, forall_eq] at h
  obtain ⟨⟨⟨⟨⟨⟨⟨⟨⟨hk, _⟩, ⟨⟨ht, hp⟩, hb⟩, hfa⟩, hu, hv⟩, h1, h2, h3, h4, h5, h6, h7⟩, hfi⟩, hci⟩, hip⟩, hfl⟩, hla⟩ := h
  have g1 := fm_len eT 201 o.fins fun x hx => eT_le x (hfi.2 x hx)
  have g2 := fm_len eT 201 o.cidrs fun x hx => eT_le x (hci.2 x hx)
  have g3 := fm_len eT 201 o.ips fun x hx => eT_le x (hip.2 x hx)
  have g4 := fm_len eP 402 o.labels fun x hx => eP_le x (hla.2 x hx)
  have g5 := fm_len eB 1 o.fams fun x hx => Nat.le_refl _
  have t1 := eT_le _ h1
  have t2 := eT_le _ h2
  have t3 := eT_le _ h3
  have t4 := eT_le _ h4
  have t5 := eT_le _ h5
  have t6 := eT_le _ h6
  have t7 := eT_le _ h7
  have hh : (eHead o).length ≤ 9000 := by
    unfold eHead
    simp only [List.length_append, BL_length, ByteArray.size_append, num8_size]
    have e1 : ∀ n, (eB n).length = 1 := fun _ => rfl
    simp only [e1]
    omega
  have ht2 : (eTail o).length ≤ 9000 := by
    have e1 : ∀ n, (eB n).length = 1 := fun _ => rfl
    unfold eTail
    split
    · simp only [List.length_append, e1]; omega
    split
    · simp only [List.length_append, e1]; omega
    split
    · simp only [List.length_append, e1, List.flatMap_cons, List.flatMap_nil, List.length_nil]; omega
    split
    · simp only [List.length_append, e1, List.flatMap_cons, List.flatMap_nil, List.length_nil]; omega
    · simp
  omega
end Go.Proofs.Ytolndeolehkjoaa
