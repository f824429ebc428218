/- QueueGrows, the plain law: one name that fails, waits, comes and is done. No walk. -/
import Derived.Test.YthmknlflgajnpaaHp10
import Derived.Test.YthmknlflgajnpaaHp11
namespace Go.Proofs.Ythmknlflgajnpaa
open Go.RowKit
def mps (a b c e : NM) : Fin 4 → NM := fun j => match j with
  | 0 => a | 1 => b | 2 => c | 3 => e
theorem mps_eq (f : Fin 4 → NM) {a b c e : NM} (h0 : f 0 = a) (h1 : f 1 = b) (h2 : f 2 = c) (h3 : f 3 = e) : f = mps a b c e := by
  funext j
  match j with
  | 0 => exact h0
  | 1 => exact h1
  | 2 => exact h2
  | 3 => exact h3
/-- nothing is to be done; a name failed f times -/
def m3 (r : Ref) (f : Nat) : NM := if f = 0 then [] else [(r, (f : Int))]
theorem m3_num (r : Ref) (f : Nat) : num (m3 r f) r = f := by
  unfold m3
  split
  · rename_i h; subst h; rfl
  · simp [num, M.get]
theorem m3_put (r : Ref) (f : Nat) : M.put (m3 r f) r ((f : Int) + 1) = m3 r (f + 1) := by
  unfold m3
  rw [if_neg (by omega : ¬ f + 1 = 0)]
  split
  · rename_i h; subst h; rfl
  · simp [M.put]
theorem m3_del (r : Ref) (f : Nat) : M.del (m3 r f) r = m3 r 0 := by
  unfold m3
  split
  · rfl
  · simp [M.del]
def g0 (b t now : Int) (r : Ref) (f : Nat) : St := ⟨b, t, now, [], [], mps [] [] [] (m3 r f)⟩
/-- it waits -/
def g1 (b t now due : Int) (r : Ref) (f : Nat) : St := ⟨b, t, now, [], [⟨due, r⟩], mps [] [] [(r, due)] (m3 r f)⟩
/-- it has come -/
def g2 (b t now : Int) (r : Ref) (f : Nat) : St := ⟨b, t, now, [r], [], mps [(r, 1)] [] [] (m3 r f)⟩
/-- it is worked on -/
def g3 (b t now : Int) (r : Ref) (f : Nat) : St := ⟨b, t, now, [], [], mps [] [(r, 1)] [] (m3 r f)⟩
theorem rdelay_bd {b t : Int} (h : 1 ≤ b ∧ b ≤ t ∧ t ≤ 1048576) (f : Int) : 1 ≤ rdelay b t f ∧ rdelay b t f ≤ t := by
  have h1 := mul_pow_mono (b := b) (by omega) (show 0 ≤ min f.toNat 30 by omega)
  rw [Int.pow_zero, Int.mul_one] at h1
  unfold rdelay
  split <;> omega
theorem g_again (b t now : Int) (r : Ref) (f : Nat) (h : 1 ≤ b ∧ b ≤ t ∧ t ≤ 1048576) : againQ (g0 b t now r f) r = g1 b t now (now + rdelay b t f) r (f + 1) := by
  have hd := rdelay_bd h f
  unfold againQ
  rw [show (g0 b t now r f).base = b from rfl, show (g0 b t now r f).most = t from rfl, show (g0 b t now r f).mp 3 = m3 r f from rfl, m3_num]
  unfold afterS
  rw [if_neg (by omega)]
  have hc : clampS (rdelay b t f) = rdelay b t f := by unfold clampS; rw [if_neg (by omega)]
  have hst : stay (againF (g0 b t now r f) r) r ((againF (g0 b t now r f) r).now + clampS (rdelay b t f)) = false := rfl
  rw [hst, if_neg Bool.false_ne_true, hc]
  show (⟨b, t, now, [], upL ([] ++ [⟨now + rdelay b t f, r⟩]) 0, _⟩ : St) = _
  rw [upL_zero]
  unfold g1
  congr 1
  refine mps_eq _ rfl rfl rfl ?_
  show M.put (m3 r f) r (num (m3 r f) r + 1) = _
  rw [m3_num, m3_put]
theorem PT.stay {s s' : St} (h : ∀ x, s.pile[0]? = some x → s.now < x.due) (p : PT s s') : s' = s := by
  cases p with
  | stop _ _ => rfl
  | skip _ n x0 q x _ hn h0 hd => have := h _ h0; omega
  | take _ n x0 q x _ hn h0 hd => have := h _ h0; omega
theorem g_wait (b t now due : Int) (r : Ref) (f : Nat) (h : now < due) (s' : St) (p : PT (g1 b t now due r f) s') : s' = g1 b t now due r f :=
  p.stay fun x hx => by
    have : x = ⟨due, r⟩ := by simpa [g1] using hx.symm
    subst this; exact h
theorem swap_one (x : Item) : downL (swapL [x] 0 0) 0 0 = [x] := by
  rw [downL_end _ _ _ (by omega)]; rfl
theorem g_comes (b t now due : Int) (r : Ref) (f : Nat) (h : due ≤ now) (s' : St) (p : PT (g1 b t now due r f) s') : s' = g2 b t now r f := by
  have pop : ∀ (n : Nat) (q : List Item) (x : Item), (g1 b t now due r f).pile.length = n + 1 → downL (swapL (g1 b t now due r f).pile 0 n) n 0 = q ++ [x] → n = 0 ∧ q = [] ∧ x = ⟨due, r⟩ := fun n q x hn hq => by
    obtain rfl : n = 0 := by simpa [g1] using hn.symm
    rw [show (g1 b t now due r f).pile = [⟨due, r⟩] from rfl, swap_one] at hq
    have hl := congrArg List.length hq
    rw [List.length_append] at hl
    obtain rfl : q = [] := List.eq_nil_of_length_eq_zero (by simp only [List.length_cons, List.length_nil] at hl; omega)
    refine ⟨rfl, rfl, ?_⟩
    simpa using hq.symm
  have get : M.get ((g1 b t now due r f).mp 2) r = some due := by show M.get [(r, due)] r = _; simp [M.get]
  cases p with
  | stop _ hs => have h2 : now < due := hs ⟨due, r⟩ rfl; omega
  | skip _ n x0 q x _ hn h0 hd hq hm hp =>
    obtain ⟨rfl, rfl, rfl⟩ := pop n q x hn hq
    exact absurd get hm
  | take _ n x0 q x _ hn h0 hd hq hm hp =>
    obtain ⟨rfl, rfl, rfl⟩ := pop n q x hn hq
    have e : addS (dropW (popS (g1 b t now due r f) []) r) r = g2 b t now r f := by
      have e1 : dropW (popS (g1 b t now due r f) []) r = g0 b t now r f := by
        unfold dropW popS g0
        show (⟨b, t, now, [], [], _⟩ : St) = _
        congr 1
        refine mps_eq _ rfl rfl ?_ rfl
        show M.del [(r, due)] r = []
        simp [M.del]
      rw [e1]
      unfold addS
      rw [if_neg (by show ¬ 0 < num [] r; simp [num, M.get]), if_pos (by rfl)]
      unfold g2
      show (⟨b, t, now, [r], [], _⟩ : St) = _
      congr 1
      exact mps_eq _ rfl rfl rfl rfl
    rw [e] at hp
    exact hp.stay fun x hx => by simp [g2] at hx
theorem g_get (b t now : Int) (r : Ref) (f : Nat) : getR (g2 b t now r f) = (rv r, true) ∧ getS (g2 b t now r f) = g3 b t now r f := by
  refine ⟨rfl, ?_⟩
  show (⟨b, t, now, [], [], _⟩ : St) = _
  unfold g3
  congr 1
  refine mps_eq _ ?_ rfl rfl rfl
  show M.del [(r, 1)] r = []
  simp [M.del]
theorem g_done (b t now : Int) (r : Ref) (f : Nat) : doneS (g3 b t now r f) r = g0 b t now r f := by
  unfold doneS
  rw [if_neg (by show ¬ num [(r, 1)] r = 0; simp [num, M.get]), if_neg (by show ¬ 0 < num [] r; simp [num, M.get])]
  show (⟨b, t, now, [], [], _⟩ : St) = _
  unfold g0
  congr 1
  refine mps_eq _ rfl ?_ rfl rfl
  show M.del [(r, 1)] r = []
  simp [M.del]
theorem g_forget (b t now : Int) (r : Ref) (f : Nat) : forgetS (g0 b t now r f) r = g0 b t now r 0 := by
  show (⟨b, t, now, [], [], _⟩ : St) = _
  unfold g0
  congr 1
  exact mps_eq _ rfl rfl rfl (m3_del r f)
theorem clamp0_id {x : Int} (h0 : 0 ≤ x) (h : x ≤ 1048576) : clamp0 x = x := by
  unfold clamp0 clampS
  rw [if_neg (by omega), if_neg (by omega)]
theorem pow30_lt {b t : Int} (h : 1 ≤ b ∧ b ≤ t ∧ t ≤ 1048576) {n : Nat} (hn : 20 ≤ n) : t ≤ b * 2 ^ n := by
  have h1 := mul_pow_mono (b := b) (by omega) hn
  rw [show (2 : Int) ^ 20 = 1048576 by decide] at h1
  omega
theorem want_next {b t : Int} (h : 1 ≤ b ∧ b ≤ t ∧ t ≤ 1048576) (f : Nat) : min (2 * rdelay b t f) t = rdelay b t ((f : Int) + 1) := by
  have hd := rdelay_bd h f
  have hd2 := rdelay_bd h ((f : Int) + 1)
  have e1 : ((f : Int)).toNat = f := by omega
  have e2 : ((f : Int) + 1).toNat = f + 1 := by omega
  by_cases hf : f < 30
  · have a1 : min f 30 = f := by omega
    have a2 : min (f + 1) 30 = f + 1 := by omega
    have hp : b * 2 ^ (f + 1) = 2 * (b * 2 ^ f) := by rw [Int.pow_succ]; rw [← Int.mul_assoc, Int.mul_comm]
    unfold rdelay at *
    rw [e1, a1] at hd ⊢
    rw [e2, a2, hp] at hd2 ⊢
    generalize b * 2 ^ f = x at *
    split at hd <;> split at hd2 <;> rename_i q1 q2 <;> simp only [q1, q2, if_true, if_false] <;> omega
  · have a1 : min f 30 = 30 := by omega
    have a2 : min (f + 1) 30 = 30 := by omega
    have hp := pow30_lt h (show 20 ≤ 30 by omega)
    unfold rdelay at *
    rw [e1, a1] at hd ⊢
    rw [e2, a2] at hd2 ⊢
    generalize b * 2 ^ 30 = x at *
    split at hd <;> rename_i q1 <;> simp only [q1, if_true, if_false] <;> omega
theorem want_first {b t : Int} (h : 1 ≤ b ∧ b ≤ t ∧ t ≤ 1048576) : rdelay b t 0 = b := by
  unfold rdelay
  rw [show min (0 : Int).toNat 30 = 0 by decide, Int.pow_zero, Int.mul_one, if_neg (by omega)]
end Go.Proofs.Ythmknlflgajnpaa
