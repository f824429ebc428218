/- Requests: the plain law: what is packed is unpacked as it was, what is unpacked has these bytes. No program. -/
import Derived.Test.YtolndeolehkjoaaWq6d
namespace Go.Proofs.Ytolndeolehkjoaa
set_option linter.unusedVariables false
set_option linter.unusedSimpArgs false
open Go.RowKit CodP
def opRq (n : Int) : Rq := ⟨n, zeroOb, 0, ⟨#[]⟩, 0⟩
def unpackRq (s : ByteArray) : Rq × Int :=
  if s.size = 0 then (zeroRq, 4)
  else if wholeB (byte0 s) = true then (if (unpackS (from1 s)).2 = 0 then ({ opRq (byte0 s) with ob := (unpackS (from1 s)).1 }, 0) else (zeroRq, 4))
  else if (restS (opRq (byte0 s)) (from1 s)).2 = true ∧ rightB (restS (opRq (byte0 s)) (from1 s)).1 = true then ((restS (opRq (byte0 s)) (from1 s)).1, 0) else (zeroRq, 4)
theorem sameB_eq {a b : Ob} (h : sameB a b = true) : a = b := by
  unfold sameB flatB at h
  simp only [Bool.and_eq_true, decide_eq_true_eq] at h
  cases a; cases b; simp_all
theorem bT_app (s t : ByteArray) : bT s ++ t = bB s.size ++ (s ++ t) := by rw [bT, CodP.append_assoc3]
theorem splitT (s : ByteArray) (h : ¬ s.size = 0) (h2 : ¬ byte0 s > s.size - 1) : s = bT (nameS s) ++ behS s := by
  have hs := split1 s h
  have hg := byte0_lt s
  have hz := from1_size s
  have hn : (nameS s).size = (byte0 s).toNat := by unfold nameS; rw [ByteArray.size_extract]; omega
  have hf : nameS s ++ behS s = from1 s := by
    apply BL_inj
    rw [BL_append, nameS, behS, from1, BL_extract, BL_extract, BL_extract, ← BL_length, List.take_length, Nat.add_comm 1]
    cases hb : BL s with
    | nil => simp
    | cons b l => simp [List.take_succ_cons, List.drop_succ_cons]
  rw [bT_app, hf, hn, show (((byte0 s).toNat : Nat) : Int) = byte0 s by omega]
  exact hs
theorem unpack_ok (s : ByteArray) (h : (unpackS s).2 = 0) : CodP.shape (unpackS s).1 = true ∧ bytesS (unpackS s).1 = s := by
  unfold unpackS at h ⊢
  by_cases hc : (firstS s).2.2 ≠ 0 ∨ (firstS s).2.1 ≠ s.size
  · rw [if_pos hc] at h; simp at h
  · rw [if_neg hc]
    have h1 : (firstS s).2.2 = 0 := by
      by_cases h : (firstS s).2.2 = 0
      · exact h
      · exact absurd (.inl h) hc
    have h2 : (firstS s).2.1 = s.size := by
      by_cases h : (firstS s).2.1 = s.size
      · exact h
      · exact absurd (.inr h) hc
    obtain ⟨a, b, c, d⟩ := first_ok s h1
    refine ⟨a, ?_⟩
    show bytesS (firstS s).1 = s
    rw [← d, h2]
    apply BL_inj
    rw [BL_extract, List.drop_zero, ← BL_length, List.take_length]
theorem restS_op (q : Rq) (s : ByteArray) : (restS q s).1.op = q.op := by
  unfold restS endS
  split
  · rfl
  split
  · rfl
  split
  · rfl
  split <;> rfl
theorem bytesRq_w (q : Rq) (h : q.op = 1 ∨ q.op = 2) : bytesRq q = bB q.op ++ bytesS q.ob := if_pos h
theorem bytesRq_3 (q : Rq) (h : q.op = 3) : bytesRq q = bB q.op ++ (bB q.kind ++ (bT q.name ++ num8 q.version.toNat)) := by
  unfold bytesRq
  rw [if_neg (by omega), if_pos h, CodP.append_assoc3, CodP.append_assoc3]
theorem bytesRq_4 (q : Rq) (h : q.op = 4) : bytesRq q = bB q.op ++ (bB q.kind ++ bT q.name) := by
  unfold bytesRq
  rw [if_neg (by omega), if_neg (by omega), if_pos h, CodP.append_assoc3]
theorem bytesRq_5 (q : Rq) (h : q.op = 5) : bytesRq q = bB q.op ++ bB q.kind := by
  unfold bytesRq
  rw [if_neg (by omega), if_neg (by omega), if_neg (by omega)]
theorem rest_ok (q : Rq) (hk : 3 ≤ q.op ∧ q.op ≤ 5) (r : ByteArray) (h : (restS q r).2 = true) : bytesRq (restS q r).1 = bB q.op ++ r := by
  unfold restS at h ⊢
  by_cases h0 : r.size = 0
  · rw [if_pos h0] at h; cases h
  rw [if_neg h0] at h ⊢
  have hs := split1 r h0
  by_cases h5 : q.op = 5
  · rw [if_pos h5] at h ⊢
    have h1 : (from1 r).size = 0 := of_decide_eq_true h
    have e : from1 r = ⟨#[]⟩ := size0.1 h1
    refine (bytesRq_5 { q with kind := byte0 r } h5).trans ?_
    rw [e, CodP.append_nil] at hs
    exact congrArg (bB q.op ++ ·) hs.symm
  · rw [if_neg h5] at h ⊢
    by_cases h6 : (from1 r).size = 0 ∨ byte0 (from1 r) > (from1 r).size - 1
    · rw [if_pos h6] at h; cases h
    · rw [if_neg h6] at h ⊢
      have ht := splitT (from1 r) (fun e => h6 (.inl e)) (fun e => h6 (.inr e))
      obtain ⟨q', hq'⟩ : ∃ q' : Rq, q' = { q with kind := byte0 r, name := nameS (from1 r) } := ⟨_, rfl⟩
      have o1 : q'.op = q.op := by rw [hq']
      have o2 : q'.kind = byte0 r := by rw [hq']
      have o3 : q'.name = nameS (from1 r) := by rw [hq']
      rw [← hq'] at h ⊢
      clear hq'
      unfold endS at h ⊢
      by_cases h3 : q'.op = 3
      · rw [if_pos h3] at h ⊢
        have h7 : (numOf (behS (from1 r))).2 = 0 := by simpa only [decide_eq_true_eq] using h
        obtain ⟨hv, h8⟩ := numOf_ok' _ h7
        clear h7 h
        show bytesRq ⟨q'.op, q'.ob, q'.kind, q'.name, (numOf (behS (from1 r))).1⟩ = _
        obtain ⟨n, hn⟩ : ∃ n, n = (numOf (behS (from1 r))).1 := ⟨_, rfl⟩
        rw [← hn] at h8 ⊢
        rw [bytesRq_3 ⟨q'.op, q'.ob, q'.kind, q'.name, n⟩ h3]
        show bB q'.op ++ (bB q'.kind ++ (bT q'.name ++ num8 n.toNat)) = _
        rw [h8, o1, o2, o3, ← ht, ← hs]
      · rw [if_neg h3] at h ⊢
        have h7 : (behS (from1 r)).size = 0 := by simpa only [decide_eq_true_eq] using h
        have e : behS (from1 r) = ⟨#[]⟩ := size0.1 h7
        refine (bytesRq_4 q' (by omega)).trans ?_
        rw [e, CodP.append_nil] at ht
        rw [o1, o2, o3, ← ht, ← hs]
theorem right_whole (k : Int) (o : Ob) (hk : k = 1 ∨ k = 2) (ho : CodP.shape o = true) : rightB ⟨k, o, 0, ⟨#[]⟩, 0⟩ = true := by
  have e1 : inR (k - 1) 4 = true := decide_eq_true (by omega)
  have e2 : onlyRB ⟨k, o, 0, ⟨#[]⟩, 0⟩ = true := by
    have e : bareQ ⟨k, o, 0, ⟨#[]⟩, 0⟩ = zeroRq := if_pos hk
    unfold onlyRB
    rw [e]
    exact sameRq_self zeroRq
  have e3 : (if wholeB k = true then CodP.shape o else okRest ⟨k, o, 0, ⟨#[]⟩, 0⟩) = true := (if_pos (decide_eq_true hk)).trans ho
  exact (Bool.and_eq_true _ _).mpr ⟨e1, (Bool.and_eq_true _ _).mpr ⟨e2, e3⟩⟩
theorem req_ok (s : ByteArray) (h : (unpackRq s).2 = 0) : rightB (unpackRq s).1 = true ∧ bytesRq (unpackRq s).1 = s := by
  unfold unpackRq at h ⊢
  by_cases h0 : s.size = 0
  · rw [if_pos h0] at h; simp at h
  rw [if_neg h0] at h ⊢
  have hs := split1 s h0
  by_cases hw : wholeB (byte0 s) = true
  · rw [if_pos hw] at h ⊢
    by_cases hu : (unpackS (from1 s)).2 = 0
    · rw [if_pos hu] at h ⊢
      obtain ⟨a, b⟩ := unpack_ok _ hu
      have hk : byte0 s = 1 ∨ byte0 s = 2 := of_decide_eq_true hw
      refine ⟨right_whole _ _ hk a, ?_⟩
      refine (bytesRq_w _ hk).trans ?_
      show bB (byte0 s) ++ bytesS (unpackS (from1 s)).1 = s
      rw [b, ← hs]
    · rw [if_neg hu] at h; simp at h
  · rw [if_neg hw] at h ⊢
    by_cases hc : (restS (opRq (byte0 s)) (from1 s)).2 = true ∧ rightB (restS (opRq (byte0 s)) (from1 s)).1 = true
    · rw [if_pos hc] at h ⊢
      have hf := (rightF hc.2).op
      rw [restS_op] at hf
      have hf' : 1 ≤ byte0 s ∧ byte0 s ≤ 5 := hf
      have hk : ¬ (byte0 s = 1 ∨ byte0 s = 2) := fun h => hw (decide_eq_true h)
      refine ⟨hc.2, ?_⟩
      have := rest_ok (opRq (byte0 s)) (show 3 ≤ byte0 s ∧ byte0 s ≤ 5 by omega) (from1 s) hc.1
      exact this.trans hs.symm
    · rw [if_neg hc] at h; simp at h
theorem req_bad (s : ByteArray) (h : (unpackRq s).2 ≠ 0) : unpackRq s = (zeroRq, 4) := by
  unfold unpackRq at h ⊢
  split
  · rfl
  rename_i h0
  rw [if_neg h0] at h
  split
  · rename_i h1
    rw [if_pos h1] at h
    split
    · rename_i h2; rw [if_pos h2] at h; exact absurd rfl h
    · rfl
  · rename_i h1
    rw [if_neg h1] at h
    split
    · rename_i h2; rw [if_pos h2] at h; exact absurd rfl h
    · rfl
end Go.Proofs.Ytolndeolehkjoaa
