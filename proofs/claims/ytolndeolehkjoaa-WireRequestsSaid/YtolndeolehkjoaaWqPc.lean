/- Requests: the plain law: what is packed is unpacked as it was, what is unpacked has these bytes. No program. -/
import Derived.Test.YtolndeolehkjoaaWq6c
namespace Go.Proofs.Ytolndeolehkjoaa
set_option linter.unusedVariables false
set_option linter.unusedSimpArgs false
open Go.RowKit CodP
def opRq (n : Int) : Rq := ⟨n, zeroOb, 0, ⟨#[]⟩, 0⟩
def unpackRq (s : ByteArray) : Rq × Int :=
  if s.size = 0 then (zeroRq, 4)
  else if wholeB (byte0 s) = true then (if (unpackS (from1 s)).2 = 0 then ({ opRq (byte0 s) with ob := (unpackS (from1 s)).1 }, 0) else (zeroRq, 4))
  else if (restS (opRq (byte0 s)) (from1 s)).2 = true ∧ rightB (restS (opRq (byte0 s)) (from1 s)).1 = true then ((restS (opRq (byte0 s)) (from1 s)).1, 0) else (zeroRq, 4)
theorem sameB_eq {a b : Ob} (h : sameB a b = true) : a = b := by
  unfold sameB flatB at h
  simp only [Bool.and_eq_true, decide_eq_true_eq] at h
  cases a; cases b; simp_all
theorem byte0_bB (n : Int) (t : ByteArray) (h0 : 0 ≤ n) (h : n ≤ 255) : byte0 (bB n ++ t) = n := by
  unfold byte0
  rw [BL_append, BL_bB]
  show (((UInt8.ofNat n.toNat).toNat : Nat) : Int) = n
  rw [UInt8.toNat_ofNat']
  omega
theorem from1_bB (n : Int) (t : ByteArray) : from1 (bB n ++ t) = t := by
  apply BL_inj
  rw [from1, BL_extract, ← BL_length, List.take_length, BL_append, BL_bB]
  rfl
theorem pos_bB (n : Int) (t : ByteArray) : ¬ (bB n ++ t).size = 0 := by rw [ByteArray.size_append, bB_size]; omega
theorem from1_size (s : ByteArray) : (from1 s).size = s.size - 1 := by unfold from1; rw [ByteArray.size_extract]; omega
theorem split1 (s : ByteArray) (h : ¬ s.size = 0) : s = bB (byte0 s) ++ from1 s := by
  apply BL_inj
  rw [BL_append, BL_bB, from1, BL_extract, ← BL_length, List.take_length]
  have hl := BL_length s
  unfold byte0
  cases hb : BL s with
  | nil => rw [hb] at hl; simp at hl; omega
  | cons b l => simp [eB]
theorem bT_app (s t : ByteArray) : bT s ++ t = bB s.size ++ (s ++ t) := by rw [bT, CodP.append_assoc3]
theorem nameS_bT (s t : ByteArray) (h : s.size ≤ 200) : nameS (bT s ++ t) = s := by
  have hb : byte0 (bT s ++ t) = s.size := by rw [bT_app, byte0_bB _ _ (by omega) (by omega)]
  apply BL_inj
  unfold nameS
  rw [hb, BL_extract, BL_append, BL_bT]
  simp only [eT, eB, Int.toNat_natCast]
  rw [Nat.add_comm 1, List.append_assoc, List.cons_append, List.take_succ_cons, List.drop_succ_cons, List.drop_zero, List.nil_append, ← BL_length, List.take_left]
theorem behS_bT (s t : ByteArray) (h : s.size ≤ 200) : behS (bT s ++ t) = t := by
  have hb : byte0 (bT s ++ t) = s.size := by rw [bT_app, byte0_bB _ _ (by omega) (by omega)]
  apply BL_inj
  unfold behS
  rw [hb, BL_extract, ← BL_length (bT s ++ t), List.take_length, BL_append, BL_bT]
  simp only [eT, eB, Int.toNat_natCast]
  rw [Nat.add_comm 1, List.append_assoc, List.cons_append, List.drop_succ_cons, List.nil_append, ← BL_length, List.drop_left]
theorem splitT (s : ByteArray) (h : ¬ s.size = 0) (h2 : ¬ byte0 s > s.size - 1) : s = bT (nameS s) ++ behS s := by
  have hs := split1 s h
  have hg := byte0_lt s
  have hz := from1_size s
  have hn : (nameS s).size = (byte0 s).toNat := by unfold nameS; rw [ByteArray.size_extract]; omega
  have hf : nameS s ++ behS s = from1 s := by
    apply BL_inj
    rw [BL_append, nameS, behS, from1, BL_extract, BL_extract, BL_extract, ← BL_length, List.take_length, Nat.add_comm 1]
    cases hb : BL s with
    | nil => simp
    | cons b l => simp [List.take_succ_cons, List.drop_succ_cons]
  rw [bT_app, hf, hn, show (((byte0 s).toNat : Nat) : Int) = byte0 s by omega]
  exact hs
theorem unpack_ok (s : ByteArray) (h : (unpackS s).2 = 0) : CodP.shape (unpackS s).1 = true ∧ bytesS (unpackS s).1 = s := by
  unfold unpackS at h ⊢
  by_cases hc : (firstS s).2.2 ≠ 0 ∨ (firstS s).2.1 ≠ s.size
  · rw [if_pos hc] at h; simp at h
  · rw [if_neg hc]
    have h1 : (firstS s).2.2 = 0 := by
      by_cases h : (firstS s).2.2 = 0
      · exact h
      · exact absurd (.inl h) hc
    have h2 : (firstS s).2.1 = s.size := by
      by_cases h : (firstS s).2.1 = s.size
      · exact h
      · exact absurd (.inr h) hc
    obtain ⟨a, b, c, d⟩ := first_ok s h1
    refine ⟨a, ?_⟩
    show bytesS (firstS s).1 = s
    rw [← d, h2]
    apply BL_inj
    rw [BL_extract, List.drop_zero, ← BL_length, List.take_length]
theorem numOf_num8' (m : Nat) (hm : m ≤ 1099511627776) : numOf (num8 m) = ((m : Int), 0) := by
  unfold numOf
  rw [if_neg (by rw [num8_size]; omega), be8_num8 m (by omega), if_neg (by omega)]
theorem numOf_ok' (s : ByteArray) (h : (numOf s).2 = 0) : 0 ≤ (numOf s).1 ∧ num8 (numOf s).1.toNat = s := by
  unfold numOf at h ⊢
  by_cases h8 : s.size ≠ 8
  · rw [if_pos h8] at h; simp at h
  rw [if_neg h8] at h ⊢
  by_cases hb : be8 s > 4611686018427387904
  · rw [if_pos hb] at h; simp at h
  · rw [if_neg hb]
    exact ⟨by simp, by rw [show ((be8 s : Int), (0 : Int)).1.toNat = be8 s by simp]; exact num8_be8 s (by omega)⟩
theorem only_parts {q : Rq} (h : onlyRB q = true) : (q.op ≤ 2 → q.op = 1 ∨ q.op = 2 → q = ⟨q.op, q.ob, 0, ⟨#[]⟩, 0⟩) ∧ (3 ≤ q.op → q.ob = zeroOb) ∧ (q.op = 4 → q.version = 0) ∧ (q.op = 5 → q.name = ⟨#[]⟩ ∧ q.version = 0) := by
  unfold onlyRB sameRq at h
  simp only [Bool.and_eq_true, decide_eq_true_eq] at h
  obtain ⟨h1, h2, h3, h4, h5⟩ := h
  have h5' := sameB_eq h5
  refine ⟨fun _ hop => ?_, fun hop => ?_, fun hop => ?_, fun hop => ?_⟩
  · unfold bareQ at h2 h3 h4
    rw [if_pos hop] at h2 h3 h4
    simp only [zeroRq] at h2 h3 h4
    cases q
    simp_all
  · unfold bareQ at h5'
    rw [if_neg (by omega)] at h5'
    split at h5'
    · exact h5'
    split at h5'
    · exact h5'
    · exact h5'
  · unfold bareQ at h4
    rw [if_neg (by omega), if_neg (by omega), if_pos hop] at h4
    exact h4
  · unfold bareQ at h3 h4
    rw [if_neg (by omega), if_neg (by omega), if_neg (by omega)] at h3 h4
    exact ⟨h3, h4⟩
theorem req_back (q : Rq) (h : rightB q = true) : unpackRq (bytesRq q) = (q, 0) := by
  have hf := rightF h
  have hop := hf.op
  obtain ⟨p1, p2, p4, p5⟩ := only_parts hf.only
  rcases (by omega : (q.op = 1 ∨ q.op = 2) ∨ q.op = 3 ∨ q.op = 4 ∨ q.op = 5) with ho | ho | ho | ho
  · have hb : bytesRq q = bB q.op ++ bytesS q.ob := if_pos ho
    have hu : unpackS (bytesS q.ob) = (q.ob, 0) := by
      have := unpack_back q.ob (hf.ob (by omega)) ⟨#[]⟩
      rw [CodP.append_nil, if_pos (show (⟨#[]⟩ : ByteArray).size = 0 from rfl)] at this
      exact this
    unfold unpackRq
    rw [hb, if_neg (pos_bB _ _), byte0_bB _ _ (by omega) (by omega), from1_bB, if_pos (show wholeB q.op = true from decide_eq_true ho), hu, if_pos rfl]
    exact congrArg (fun x => (x, (0 : Int))) (p1 (by omega) ho).symm
  all_goals
    have hk := hf.kind (by omega)
    have hn := hf.name (by omega)
    have hv := hf.version (by omega)
    have hob := p2 (by omega)
  · have hb : bytesRq q = bB q.op ++ (bB q.kind ++ (bT q.name ++ num8 q.version.toNat)) := by
      unfold bytesRq
      rw [if_neg (by omega), if_pos ho, CodP.append_assoc3, CodP.append_assoc3]
    have hr : restS (opRq q.op) (bB q.kind ++ (bT q.name ++ num8 q.version.toNat)) = (q, true) := by
      unfold restS
      have hl : byte0 (bT q.name ++ num8 q.version.toNat) = q.name.size := by rw [bT_app, byte0_bB _ _ (by omega) (by omega)]
      have hz : (bT q.name ++ num8 q.version.toNat).size = q.name.size + 9 := by rw [ByteArray.size_append, bT_size, num8_size]
      rw [if_neg (pos_bB _ _), if_neg (show ¬ (opRq q.op).op = 5 by show ¬ q.op = 5; omega), from1_bB, if_neg (by rw [hl, hz]; omega), nameS_bT _ _ hn, behS_bT _ _ hn, byte0_bB _ _ (by omega) (by omega)]
      unfold endS
      refine (if_pos ho).trans ?_
      rw [numOf_num8' _ (by omega)]
      have e : ((q.version.toNat : Nat) : Int) = q.version := by omega
      rw [e]
      cases q
      simp_all [opRq]
    unfold unpackRq
    rw [hb, if_neg (pos_bB _ _), byte0_bB _ _ (by omega) (by omega), from1_bB, if_neg (by unfold wholeB; simp; omega), hr, if_pos ⟨rfl, h⟩]
  · have hb : bytesRq q = bB q.op ++ (bB q.kind ++ (bT q.name ++ ⟨#[]⟩)) := by
      unfold bytesRq
      rw [if_neg (by omega), if_neg (by omega), if_pos ho, CodP.append_assoc3, CodP.append_nil]
    have hr : restS (opRq q.op) (bB q.kind ++ (bT q.name ++ ⟨#[]⟩)) = (q, true) := by
      unfold restS
      have hl : byte0 (bT q.name ++ ⟨#[]⟩) = q.name.size := by rw [bT_app, byte0_bB _ _ (by omega) (by omega)]
      have hz : (bT q.name ++ ⟨#[]⟩).size = q.name.size + 1 := by rw [ByteArray.size_append, bT_size]; rfl
      rw [if_neg (pos_bB _ _), if_neg (show ¬ (opRq q.op).op = 5 by show ¬ q.op = 5; omega), from1_bB, if_neg (by rw [hl, hz]; omega), nameS_bT _ _ hn, behS_bT _ _ hn, byte0_bB _ _ (by omega) (by omega)]
      unfold endS
      refine (if_neg (show ¬ q.op = 3 by omega)).trans ?_
      rw [decide_eq_true (show (⟨#[]⟩ : ByteArray).size = 0 from rfl)]
      have e := p4 ho
      cases q
      simp_all [opRq]
    unfold unpackRq
    rw [hb, if_neg (pos_bB _ _), byte0_bB _ _ (by omega) (by omega), from1_bB, if_neg (by unfold wholeB; simp; omega), hr, if_pos ⟨rfl, h⟩]
  · have hb : bytesRq q = bB q.op ++ (bB q.kind ++ ⟨#[]⟩) := by
      unfold bytesRq
      rw [if_neg (by omega), if_neg (by omega), if_neg (by omega), CodP.append_nil]
    have hr : restS (opRq q.op) (bB q.kind ++ ⟨#[]⟩) = (q, true) := by
      unfold restS
      rw [if_neg (pos_bB _ _), if_pos (show (opRq q.op).op = 5 from ho), from1_bB, byte0_bB _ _ (by omega) (by omega), decide_eq_true (show (⟨#[]⟩ : ByteArray).size = 0 from rfl)]
      have e := p5 ho
      cases q
      simp_all [opRq]
    unfold unpackRq
    rw [hb, if_neg (pos_bB _ _), byte0_bB _ _ (by omega) (by omega), from1_bB, if_neg (by unfold wholeB; simp; omega), hr, if_pos ⟨rfl, h⟩]
theorem restS_op (q : Rq) (s : ByteArray) : (restS q s).1.op = q.op := by
  unfold restS endS
  split
  · rfl
  split
  · rfl
  split
  · rfl
  split <;> rfl
theorem bytesRq_w (q : Rq) (h : q.op = 1 ∨ q.op = 2) : bytesRq q = bB q.op ++ bytesS q.ob := if_pos h
theorem bytesRq_3 (q : Rq) (h : q.op = 3) : bytesRq q = bB q.op ++ (bB q.kind ++ (bT q.name ++ num8 q.version.toNat)) := by
  unfold bytesRq
  rw [if_neg (by omega), if_pos h, CodP.append_assoc3, CodP.append_assoc3]
theorem bytesRq_4 (q : Rq) (h : q.op = 4) : bytesRq q = bB q.op ++ (bB q.kind ++ bT q.name) := by
  unfold bytesRq
  rw [if_neg (by omega), if_neg (by omega), if_pos h, CodP.append_assoc3]
theorem bytesRq_5 (q : Rq) (h : q.op = 5) : bytesRq q = bB q.op ++ bB q.kind := by
  unfold bytesRq
  rw [if_neg (by omega), if_neg (by omega), if_neg (by omega)]
theorem rest_ok (q : Rq) (hk : 3 ≤ q.op ∧ q.op ≤ 5) (r : ByteArray) (h : (restS q r).2 = true) : bytesRq (restS q r).1 = bB q.op ++ r := by
  unfold restS at h ⊢
  by_cases h0 : r.size = 0
  · rw [if_pos h0] at h; cases h
  rw [if_neg h0] at h ⊢
  have hs := split1 r h0
  by_cases h5 : q.op = 5
  · rw [if_pos h5] at h ⊢
    have h1 : (from1 r).size = 0 := of_decide_eq_true h
    have e : from1 r = ⟨#[]⟩ := size0.1 h1
    refine (bytesRq_5 { q with kind := byte0 r } h5).trans ?_
    rw [e, CodP.append_nil] at hs
    exact congrArg (bB q.op ++ ·) hs.symm
  · rw [if_neg h5] at h ⊢
    by_cases h6 : (from1 r).size = 0 ∨ byte0 (from1 r) > (from1 r).size - 1
    · rw [if_pos h6] at h; cases h
    · rw [if_neg h6] at h ⊢
      have ht := splitT (from1 r) (fun e => h6 (.inl e)) (fun e => h6 (.inr e))
      obtain ⟨q', hq'⟩ : ∃ q' : Rq, q' = { q with kind := byte0 r, name := nameS (from1 r) } := ⟨_, rfl⟩
      have o1 : q'.op = q.op := by rw [hq']
      have o2 : q'.kind = byte0 r := by rw [hq']
      have o3 : q'.name = nameS (from1 r) := by rw [hq']
      rw [← hq'] at h ⊢
      clear hq'
      unfold endS at h ⊢
      by_cases h3 : q'.op = 3
      · rw [if_pos h3] at h ⊢
        have h7 : (numOf (behS (from1 r))).2 = 0 := by simpa only [decide_eq_true_eq] using h
        obtain ⟨hv, h8⟩ := numOf_ok' _ h7
        clear h7 h
        show bytesRq ⟨q'.op, q'.ob, q'.kind, q'.name, (numOf (behS (from1 r))).1⟩ = _
        obtain ⟨n, hn⟩ : ∃ n, n = (numOf (behS (from1 r))).1 := ⟨_, rfl⟩
        rw [← hn] at h8 ⊢
        rw [bytesRq_3 ⟨q'.op, q'.ob, q'.kind, q'.name, n⟩ h3]
        show bB q'.op ++ (bB q'.kind ++ (bT q'.name ++ num8 n.toNat)) = _
        rw [h8, o1, o2, o3, ← ht, ← hs]
      · rw [if_neg h3] at h ⊢
        have h7 : (behS (from1 r)).size = 0 := by simpa only [decide_eq_true_eq] using h
        have e : behS (from1 r) = ⟨#[]⟩ := size0.1 h7
        refine (bytesRq_4 q' (by omega)).trans ?_
        rw [e, CodP.append_nil] at ht
        rw [o1, o2, o3, ← ht, ← hs]
theorem right_whole (k : Int) (o : Ob) (hk : k = 1 ∨ k = 2) (ho : CodP.shape o = true) : rightB ⟨k, o, 0, ⟨#[]⟩, 0⟩ = true := by
  have e1 : inR (k - 1) 4 = true := decide_eq_true (by omega)
  have e2 : onlyRB ⟨k, o, 0, ⟨#[]⟩, 0⟩ = true := by
    have e : bareQ ⟨k, o, 0, ⟨#[]⟩, 0⟩ = zeroRq := if_pos hk
    unfold onlyRB
    rw [e]
    exact sameRq_self zeroRq
  have e3 : (if wholeB k = true then CodP.shape o else okRest ⟨k, o, 0, ⟨#[]⟩, 0⟩) = true := (if_pos (decide_eq_true hk)).trans ho
  exact (Bool.and_eq_true _ _).mpr ⟨e1, (Bool.and_eq_true _ _).mpr ⟨e2, e3⟩⟩
theorem req_ok (s : ByteArray) (h : (unpackRq s).2 = 0) : rightB (unpackRq s).1 = true ∧ bytesRq (unpackRq s).1 = s := by
  unfold unpackRq at h ⊢
  by_cases h0 : s.size = 0
  · rw [if_pos h0] at h; simp at h
  rw [if_neg h0] at h ⊢
  have hs := split1 s h0
  by_cases hw : wholeB (byte0 s) = true
  · rw [if_pos hw] at h ⊢
    by_cases hu : (unpackS (from1 s)).2 = 0
    · rw [if_pos hu] at h ⊢
      obtain ⟨a, b⟩ := unpack_ok _ hu
      have hk : byte0 s = 1 ∨ byte0 s = 2 := of_decide_eq_true hw
      refine ⟨right_whole _ _ hk a, ?_⟩
      refine (bytesRq_w _ hk).trans ?_
      show bB (byte0 s) ++ bytesS (unpackS (from1 s)).1 = s
      rw [b, ← hs]
    · rw [if_neg hu] at h; simp at h
  · rw [if_neg hw] at h ⊢
    by_cases hc : (restS (opRq (byte0 s)) (from1 s)).2 = true ∧ rightB (restS (opRq (byte0 s)) (from1 s)).1 = true
    · rw [if_pos hc] at h ⊢
      have hf := (rightF hc.2).op
      rw [restS_op] at hf
      have hf' : 1 ≤ byte0 s ∧ byte0 s ≤ 5 := hf
      have hk : ¬ (byte0 s = 1 ∨ byte0 s = 2) := fun h => hw (decide_eq_true h)
      refine ⟨hc.2, ?_⟩
      have := rest_ok (opRq (byte0 s)) (show 3 ≤ byte0 s ∧ byte0 s ≤ 5 by omega) (from1 s) hc.1
      exact this.trans hs.symm
    · rw [if_neg hc] at h; simp at h
theorem req_bad (s : ByteArray) (h : (unpackRq s).2 ≠ 0) : unpackRq s = (zeroRq, 4) := by
  unfold unpackRq at h ⊢
  split
  · rfl
  rename_i h0
  rw [if_neg h0] at h
  split
  · rename_i h1
    rw [if_pos h1] at h
    split
    · rename_i h2; rw [if_pos h2] at h; exact absurd rfl h
    · rfl
  · rename_i h1
    rw [if_neg h1] at h
    split
    · rename_i h2; rw [if_pos h2] at h; exact absurd rfl h
    · rfl
end Go.Proofs.Ytolndeolehkjoaa
