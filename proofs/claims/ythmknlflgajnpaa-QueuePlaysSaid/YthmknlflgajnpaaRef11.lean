/- The walks of the reference's Less, Ahead and Same. -/
import Derived.Test.YthmknlflgajnpaaRef10
import Derived.Test.YthmknlflgajnpaaHpP
namespace Go.Proofs.Ythmknlflgajnpaa
set_option linter.unusedVariables false
set_option linter.unusedSimpArgs false
open Go.RowKit
def lessS (s t : ByteArray) : Bool := decide (Lib.compareBytes s.data.toList t.data.toList < 0)
def lessD (s t : ByteArray) (k : Nat) : Bool := decide (Lib.compareBytes (s.data.toList.drop k) (t.data.toList.drop k) < 0)
theorem drop_at (s : ByteArray) (k : Nat) (h : k < s.size) : s.data.toList.drop k = s[k] :: s.data.toList.drop (k + 1) := by
  have h' : k < s.data.toList.length := by simpa using h
  rw [List.drop_eq_getElem_cons h']
  rfl
theorem lessD_eq (s t : ByteArray) (k : Nat) (h1 : k < s.size) (h2 : k < t.size) (h : s[k].toNat = t[k].toNat) : lessD s t k = lessD s t (k + 1) := by
  unfold lessD
  rw [drop_at s k h1, drop_at t k h2, Lib.compareBytes]
  simp only [UInt8.lt_iff_toNat_lt]
  rw [if_neg (by omega), if_neg (by omega)]
theorem lessD_ne (s t : ByteArray) (k : Nat) (h1 : k < s.size) (h2 : k < t.size) (h : s[k].toNat ≠ t[k].toNat) : lessD s t k = decide (s[k].toNat < t[k].toNat) := by
  unfold lessD
  rw [drop_at s k h1, drop_at t k h2, Lib.compareBytes]
  simp only [UInt8.lt_iff_toNat_lt]
  by_cases g : s[k].toNat < t[k].toNat
  · rw [if_pos g]; simp [g]
  · rw [if_neg g, if_pos (by omega)]; simp [g]
theorem lessD_end (s t : ByteArray) (k : Nat) (h1 : k ≤ s.size) (h2 : k ≤ t.size) (h : k = s.size ∨ k = t.size) : lessD s t k = decide (s.size < t.size) := by
  unfold lessD
  have e1 : (s.data.toList.drop k).length = s.size - k := by simp
  have e2 : (t.data.toList.drop k).length = t.size - k := by simp
  generalize s.data.toList.drop k = a at *
  generalize t.data.toList.drop k = b at *
  cases a with
  | nil =>
    cases b with
    | nil => simp at e1 e2; simp [Lib.compareBytes]; omega
    | cons y b => simp at e1 e2; simp [Lib.compareBytes]; omega
  | cons x a =>
    cases b with
    | nil => simp at e1 e2; simp [Lib.compareBytes]; omega
    | cons y b => simp at e1 e2; omega
set_option maxRecDepth 100000 in
set_option maxHeartbeats 1000000 in
theorem rless_any (s t : ByteArray) (w : World) (hs : s.size ≤ 1000000) (ht : t.size ≤ 1000000) :
    Calls Try.prog 41 #[.string s, .string t] w fun e w' => e = .returned (.bool (lessS s t)) ∧ ∃ n, w' = w.drewN n := by
  go_enter Try.func41, Try.ntmps41
  go_wp2
  go_loopw [5] (fun i wr => ∃ k : Nat, i = .int .i64 k ∧ k ≤ s.size ∧ k ≤ t.size ∧ Hid (∃ q, wr = w.drewN q) ∧ Hid (lessS s t = lessD s t k)) (fun i _ => s.size - (intOf i).toNat)
  case atStart => exact ⟨0, by go_num, by omega, by omega, Lib.hid ⟨0, rfl⟩, Lib.hid rfl⟩
  case round =>
    obtain ⟨k, rfl, k1, k2, HQ, HL⟩ := hrel
    by_cases h1 : k < s.size
    · by_cases h2 : k < t.size
      · by_cases h : s[k].toNat = t[k].toNat
        · have HL2 := Lib.hid (HL.out.trans (lessD_eq s t k h1 h2 h))
          have n1 : ((s[k].toNat : Int) != (t[k].toNat : Int)) = false := by simp [h]
          have n2 : ((s[k].toNat : Int) == (t[k].toNat : Int)) = true := by simp [h]
          clear h
          go_wp2
          go_quiet (fail)
          go_wp2
          go_roundw
          case rel => exact ⟨k + 1, by go_num, by omega, by omega, Lib.hid (by obtain ⟨q, hq⟩ := HQ.out; exact ⟨_, by rw [hq, World.drewN_drewN]⟩), HL2⟩
          case measure => simp [intOf]; omega
        · have HL2 := Lib.hid (HL.out.trans (lessD_ne s t k h1 h2 h))
          have n1 : ((s[k].toNat : Int) != (t[k].toNat : Int)) = true := by simp; omega
          have n2 : ((s[k].toNat : Int) == (t[k].toNat : Int)) = false := by simp; omega
          clear h
          go_wp2
          go_quiet (fail)
          go_wp2
          go_quiet (fail)
          go_wp2
          go_ret
          refine ⟨by rw [HL2.out]; simp, ?_⟩
          obtain ⟨q, hq⟩ := HQ.out
          exact ⟨_, by rw [hq, World.drewN_drewN, World.drewN_drewN]⟩
      · have HL2 := Lib.hid (HL.out.trans (lessD_end s t k k1 k2 (.inr (by omega))))
        go_wp2
        go_ret
        exact ⟨by rw [HL2.out]; rfl, HQ.out⟩
    · have HL2 := Lib.hid (HL.out.trans (lessD_end s t k k1 k2 (.inl (by omega))))
      go_wp2
      go_ret
      exact ⟨by rw [HL2.out]; rfl, HQ.out⟩
theorem less_due {a b : Item} (h : a.due ≠ b.due) : lessB a b = decide (a.due < b.due) := by
  rw [Bool.eq_iff_iff, less_iff, decide_eq_true_iff]; omega
theorem less_kind {a b : Item} (h : a.due = b.due) (h2 : a.ref.kind ≠ b.ref.kind) : lessB a b = decide (a.ref.kind < b.ref.kind) := by
  rw [Bool.eq_iff_iff, less_iff, decide_eq_true_iff]; omega
theorem less_name {a b : Item} (h : a.due = b.due) (h2 : a.ref.kind = b.ref.kind) : lessB a b = lessS a.ref.name b.ref.name := by
  rw [Bool.eq_iff_iff, less_iff]
  unfold lessS nm
  rw [decide_eq_true_iff]; omega
set_option maxRecDepth 100000 in
set_option maxHeartbeats 1000000 in
theorem ahead_any (a b : Item) (w : World) (ha : a.ref.name.size ≤ 1000000) (hb : b.ref.name.size ≤ 1000000) :
    Calls Try.prog 39 #[iv a, iv b] w fun e w' => e = .returned (.bool (lessB a b)) ∧ Below w.heap.size w w' := by
  obtain ⟨d1, k1, n1⟩ := a
  obtain ⟨d2, k2, n2⟩ := b
  have hB := Lib.hid (G.bthen (bel_allocT w (.cells #[.int .i64 d1, .int .i64 k1, .string n1] 78)) (bel_allocT _ (.cells #[.int .i64 d2, .int .i64 k2, .string n2] 78)))
  unfold iv
  by_cases h1 : d1 = d2
  · by_cases h2 : k1 = k2
    · have HL := Lib.hid (less_name (a := ⟨d1, k1, n1⟩) (b := ⟨d2, k2, n2⟩) h1 h2)
      have n1' : ((d1 : Int) != d2) = false := by simp [h1]
      have n2' : ((d1 : Int) == d2) = true := by simp [h1]
      have m1' : ((k1 : Int) != k2) = false := by simp [h2]
      have m2' : ((k1 : Int) == k2) = true := by simp [h2]
      clear h1 h2
      go_enter Try.func39, Try.ntmps39
      go_wp2_with (go_at_call 41; refine (rless_any _ _ _ ha hb).mono ?_; rintro e w9 ⟨rfl, hw9⟩; have HW9 := Lib.hid hw9; clear hw9)
      go_ret
      refine ⟨by rw [HL.out]; rfl, ?_⟩
      obtain ⟨q, hq⟩ := HW9.out
      rw [hq]; exact G.bdrewN hB.out _
    · have HL := Lib.hid (less_kind (a := ⟨d1, k1, n1⟩) (b := ⟨d2, k2, n2⟩) h1 h2)
      have n1' : ((d1 : Int) != d2) = false := by simp [h1]
      have n2' : ((d1 : Int) == d2) = true := by simp [h1]
      have m1' : ((k1 : Int) != k2) = true := by simpa using h2
      have m2' : ((k1 : Int) == k2) = false := by simpa using h2
      clear h1 h2
      go_enter Try.func39, Try.ntmps39
      go_wp2
      go_ret
      exact ⟨by rw [HL.out]; rfl, hB.out⟩
  · have HL := Lib.hid (less_due (a := ⟨d1, k1, n1⟩) (b := ⟨d2, k2, n2⟩) h1)
    have n1' : ((d1 : Int) != d2) = true := by simpa using h1
    have n2' : ((d1 : Int) == d2) = false := by simpa using h1
    clear h1
    go_enter Try.func39, Try.ntmps39
    go_wp2
    go_ret
    exact ⟨by rw [HL.out]; rfl, hB.out⟩
theorem row_at {w : World} {v : Value} {l : List Ref} (h : Row w v l) : ∃ A c, v = .slice A l.length c ∧ ∀ k (hk : k < l.length), ∃ g, A = some ⟨g, 0, none⟩ ∧ l.length ≤ c ∧ w.cell? ⟨g, k * 2, none⟩ = some (.int .i64 l[k].kind) ∧ w.cell? ⟨g, k * 2 + 1, none⟩ = some (.string l[k].name) := by
  rcases h with ⟨rfl, rfl⟩ | ⟨g, c, rfl, h1, h2⟩
  · exact ⟨none, 0, rfl, fun k hk => by simp at hk⟩
  · exact ⟨_, c, rfl, fun k hk => ⟨g, rfl, h1, h2 _ _ (flat_at l k hk).1, h2 _ _ (flat_at l k hk).2⟩⟩
set_option maxRecDepth 100000 in
set_option maxHeartbeats 2000000 in
theorem same_any (v1 v2 : Value) (l1 l2 : List Ref) (w : World) (h1 : Row w v1 l1) (h2 : Row w v2 l2) (hl1 : l1.length ≤ 1000000) (hl2 : l2.length ≤ 1000000) :
    Calls Try.prog 23 #[v1, v2] w fun e w' => e = .returned (.bool (decide (l1 = l2))) ∧ ∃ q, w' = w.drewN q := by
  obtain ⟨A1, c1, rfl, r1⟩ := row_at h1
  obtain ⟨A2, c2, rfl, r2⟩ := row_at h2
  obtain ⟨n1, e1⟩ : ∃ n, n = l1.length := ⟨_, rfl⟩
  obtain ⟨n2, e2⟩ : ∃ n, n = l2.length := ⟨_, rfl⟩
  rw [← e1] at hl1
  rw [← e2] at hl2
  rw [← e1, ← e2]
  by_cases hn : n1 = n2
  · subst hn
    have m1 : ((n1 : Int) != (n1 : Int)) = false := by simp
    have m2 : ((n1 : Int) == (n1 : Int)) = true := by simp
    have E1 := Lib.hid e1
    have E2 := Lib.hid e2
    have R1 := Lib.hid r1
    have R2 := Lib.hid r2
    clear e1 e2 r1 r2 h1 h2 hl2
    go_enter Try.func23, Try.ntmps23
    go_wp2
    go_loopw [5] (fun i wr => ∃ k : Nat, i = .int .i64 k ∧ k ≤ n1 ∧ Hid (∃ q, wr = w.drewN q) ∧ Hid (∀ j (h1 : j < l1.length) (h2 : j < l2.length), j < k → l1[j] = l2[j])) (fun i _ => n1 - (intOf i).toNat)
    case atStart => exact ⟨0, by go_num, by omega, Lib.hid ⟨0, rfl⟩, Lib.hid (fun j _ _ h => by omega)⟩
    case round =>
      obtain ⟨k, rfl, hk, HQ, H⟩ := hrel
      by_cases hlt : k < n1
      · have hk1 : k < l1.length := by have := E1.out; omega
        have hk2 : k < l2.length := by have := E2.out; omega
        obtain ⟨g1, ha1, hc1, p1, p2⟩ := R1.out k hk1
        obtain ⟨g2, ha2, hc2, p3, p4⟩ := R2.out k hk2
        subst ha1; subst ha2
        have hw : ∀ (g j : Nat) (u : Value), w.cell? ⟨g, j, none⟩ = some u → wr.cell? ⟨g, j, none⟩ = some u := fun g j u h => by
          obtain ⟨q, hq⟩ := HQ.out
          rw [hq]; exact h
        replace p1 := hw _ _ _ p1
        replace p2 := hw _ _ _ p2
        replace p3 := hw _ _ _ p3
        replace p4 := hw _ _ _ p4
        rw [← E1.out] at hc1
        rw [← E2.out] at hc2
        obtain ⟨x, hx⟩ : ∃ x, x = l1[k] := ⟨_, rfl⟩
        obtain ⟨y, hy⟩ : ∃ y, y = l2[k] := ⟨_, rfl⟩
        rw [← hx] at p1 p2
        rw [← hy] at p3 p4
        have HX := Lib.hid hx
        have HY := Lib.hid hy
        clear hx hy hw
        by_cases he : x = y
        · have heq := run_ne_ref x y
          unfold rv at heq
          rw [decide_eq_true he] at heq
          have HN : Hid (∀ j (h1 : j < l1.length) (h2 : j < l2.length), j < k + 1 → l1[j] = l2[j]) := Lib.hid (fun j h1 h2 h3 => by
            rcases Nat.lt_or_ge j k with h4 | h4
            · exact H.out j h1 h2 h4
            · obtain rfl : j = k := by omega
              exact HX.out.symm.trans (he.trans HY.out))
          clear he
          go_wp2
          go_quiet (fail)
          go_wp2
          go_roundw
          case rel => exact ⟨k + 1, by go_num, by omega, Lib.hid (by obtain ⟨q, hq⟩ := HQ.out; exact ⟨_, by rw [hq, World.drewN_drewN]⟩), HN⟩
          case measure => simp [intOf]; omega
        · have heq := run_ne_ref x y
          unfold rv at heq
          rw [decide_eq_false he] at heq
          have HF : Hid (decide (l1 = l2) = false) := Lib.hid (decide_eq_false (fun e => he (by rw [HX.out, HY.out]; subst e; rfl)))
          clear he
          go_wp2
          go_quiet (fail)
          go_wp2
          go_ret
          refine ⟨by rw [HF.out]; rfl, ?_⟩
          obtain ⟨q, hq⟩ := HQ.out
          exact ⟨_, by rw [hq, World.drewN_drewN]⟩
      · have HF : Hid (decide (l1 = l2) = true) := Lib.hid (decide_eq_true (List.ext_getElem (by rw [← E1.out, ← E2.out]) (fun j h1 h2 => H.out j h1 h2 (by have := E1.out; omega))))
        have hkn : k = n1 := by omega
        subst hkn
        go_wp2
        go_ret
        exact ⟨by rw [HF.out]; rfl, HQ.out⟩
  · have m1 : ((n1 : Int) != (n2 : Int)) = true := by simp; omega
    have m2 : ((n1 : Int) == (n2 : Int)) = false := by simp; omega
    have HF : Hid (decide (l1 = l2) = false) := Lib.hid (decide_eq_false (fun e => hn (by rw [e1, e2, e])))
    clear hn e1 e2 r1 r2 h1 h2
    go_enter Try.func23, Try.ntmps23
    go_wp2
    go_ret
    exact ⟨by rw [HF.out]; rfl, 0, rfl⟩
end Go.Proofs.Ythmknlflgajnpaa
