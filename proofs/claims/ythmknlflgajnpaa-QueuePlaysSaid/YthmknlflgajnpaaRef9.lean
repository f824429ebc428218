/- The walks of the reference's queue: Again. -/
import Derived.Test.YthmknlflgajnpaaRef8
namespace Go.Proofs.Ythmknlflgajnpaa
open Go.RowKit
def rdelay (base most n : Int) : Int := if most < base * 2 ^ (min n.toNat 30) then most else base * 2 ^ (min n.toNat 30)
def ragainF (s : RS) (r : Ref) : RS := { s with fails := fo s.fails r ++ [⟨r, rfail s.fails r + 1⟩] }
def ragainS (s : RS) (r : Ref) : RS := rafterS (ragainF s r) r (rdelay s.base s.most (rfail s.fails r))
theorem pow_le30 {k : Nat} (h : k ≤ 30) : (2 : Int) ^ k ≤ 1073741824 ∧ 0 < (2 : Int) ^ k := by
  have h1 : (2 : Nat) ^ k ≤ 2 ^ 30 := Nat.pow_le_pow_right (by decide) h
  have h2 : 0 < (2 : Nat) ^ k := Nat.pow_pos (by decide)
  have e : ((2 ^ k : Nat) : Int) = (2 : Int) ^ k := by simp
  omega
theorem mul_pow_bound {b : Int} (h0 : 0 ≤ b) (h : b ≤ 1048576) {k : Nat} (hk : k ≤ 30) : 0 ≤ b * 2 ^ k ∧ b * 2 ^ k ≤ 1125899906842624 := by
  obtain ⟨h1, h2⟩ := pow_le30 hk
  refine ⟨Int.mul_nonneg h0 (by omega), ?_⟩
  exact Int.le_trans (Int.mul_le_mul h h1 (by omega) (by omega)) (by decide)
set_option maxRecDepth 100000 in
set_option maxHeartbeats 4000000 in
theorem ragain_any (B rb : Nat) (s : RS) (v : RV) (r : Ref) (w : World) (h : RInv B rb s v w) (hl : ∀ i, s.n i ≤ 900000) (hnow : 0 ≤ s.now ∧ s.now ≤ 1099511627776) (hbase : 0 ≤ s.base ∧ s.base ≤ 1048576) (hf : 0 ≤ rfail s.fails r ∧ rfail s.fails r ≤ 1000000) :
    Calls Try.prog 32 #[.pointer (some ⟨rb, 0, none⟩), rv r] w fun e w' => e = .returned (.tuple #[]) ∧ RStep B rb v w (ragainS s r) w' := by
  obtain ⟨W, hW⟩ : ∃ W, W = w.alloc (.cells #[.int .i64 r.kind, .string r.name] 30) := ⟨_, rfl⟩
  have hbW : Below w.heap.size w W := by rw [hW]; exact bel_alloc _ _
  have A0 : RAt rb v W w.heap.size (refBox r) := by rw [hW]; exact RAt.new h _
  have R0 := (RRun.start h).below hbW
  have b0 := A0.k
  have b1 := A0.nm
  have HW := Lib.hid hW
  have HR := Lib.hid R0
  have HA := Lib.hid A0
  have Hl := Lib.hid hl
  have hl1 : ∀ i, s.n i ≤ 1000000 := fun i => by have := hl i; omega
  have Hl1 := Lib.hid hl1
  obtain ⟨n, hn⟩ : ∃ n, n = rfail s.fails r := ⟨_, rfl⟩
  rw [← hn] at hf
  have Hn := Lib.hid hn
  have Hnow := Lib.hid hnow
  have Hbase := Lib.hid hbase
  rw [hW] at b0 b1
  unfold rv
  clear hW hbW A0 R0 h hl hl1 hn hnow hbase
  go_enter Try.func32, Try.ntmps32
  go_wp2_with (fail)
  rw [← HW.out]
  refine (rfailed_any B rb s v r _ HR.out.inv Hl1.out).mono ?_
  rintro e w1 ⟨rfl, hb1⟩
  rw [← Hn.out]
  obtain ⟨hf0, hf1⟩ := hf
  have HR1 := Lib.hid (HR.out.below hb1)
  have HA1 := Lib.hid (HA.out.below hb1)
  have c0 := HR1.out.inv.c0
  clear hb1 b0 b1
  go_wp2_with (fail)
  go_loopw [5, 6] (fun d i wr => ∃ k : Nat, (k : Int) ≤ n ∧ k ≤ 30 ∧ i = .int .i64 k ∧ wr = w1 ∧ ∃ D, d = .int .i64 D ∧ Hid (D = s.base * 2 ^ k)) (fun _ i _ => 30 - (intOf i).toNat)
  case atStart => exact ⟨0, by omega, by omega, by go_num, rfl, _, rfl, Lib.hid (by simp)⟩
  case round =>
    obtain ⟨k, hk, hk3, rfl, rfl, D, rfl, HD⟩ := hrel
    have hDb := mul_pow_bound Hbase.out.1 Hbase.out.2 hk3
    rw [← HD.out] at hDb
    by_cases hkn : (k : Int) < n
    · by_cases hk30 : k < 30
      · have hw : IntKind.i64.wrap (D * 2) = D * 2 := w64 _ (by omega) (by omega)
        have hnx : D * 2 = s.base * 2 ^ (k + 1) := by rw [HD.out, Int.pow_succ, Int.mul_assoc]
        have Hnx := Lib.hid hnx
        clear hnx hDb
        go_wp2_with (fail)
        go_roundw
        case rel => exact ⟨k + 1, by omega, by omega, by go_num, by first | rfl | trivial, _, rfl, Hnx⟩
        case measure => simp [intOf]; omega
      · have hkx : k = 30 := by omega
        have hkk : min n.toNat 30 = k := by omega
        obtain ⟨E, hE⟩ : ∃ E, E = rdelay s.base s.most n := ⟨_, rfl⟩
        have hE2 : E = if s.most < D then s.most else D := by rw [hE, rdelay, hkk, ← HD.out]
        have HE := Lib.hid hE
        have c1 := HR1.out.inv.c1
        have b0 := HA1.out.k
        have b1 := HA1.out.nm
        have ht : ∃ q : Bool, decide (s.most < D) = q ∧ (if q then s.most else D) = E := by
          by_cases hq : s.most < D
          · exact ⟨true, decide_eq_true hq, by rw [hE2, if_pos hq]; rfl⟩
          · exact ⟨false, decide_eq_false hq, by rw [hE2, if_neg hq]; rfl⟩
        obtain ⟨q, hq1, hq2⟩ := ht
        have hw1 : IntKind.i64.wrap (n + 1) = n + 1 := w64 _ (by omega) (by omega)
        clear hE hE2 hkk hDb
        rcases q with _ | _
        all_goals
          simp only [if_true, Bool.false_eq_true, if_false] at hq2
          subst hq2
          go_wp2_with (fail)
          refine (rforget_any B rb s v r _ HR1.out.inv Hl1.out).mono ?_
          rintro e w5 ⟨rfl, hs5⟩
          obtain ⟨v5, r5, t5⟩ := HR1.out.step hs5
          have HR5 := Lib.hid r5
          have HA5 := Lib.hid (t5 _ _ HA1.out)
          have hfl : (fo s.fails r).length ≤ 900000 := Nat.le_trans (List.length_filter_le _ _) (Hl.out 4)
          obtain ⟨gg, cg, z4, r1, p1, p2, p3⟩ := r5.inv.app 4 (fc ⟨r, n + 1⟩) rfl (fc_one _) (Nat.le_trans hfl (by decide)) 48 (ragainF s r) ⟨rfl, rfl, rfl⟩ (fun i hi => by match i with | 0 => exact ⟨rfl, rfl⟩ | 1 => exact ⟨rfl, rfl⟩ | 2 => exact ⟨rfl, rfl⟩ | 3 => exact ⟨rfl, rfl⟩ | 4 => exact absurd rfl hi) ⟨by simp [RS.n, ragainF, rforgetS], by simp [RS.xs, ragainF, rforgetS, Hn.out]⟩
          have m1 : (Builtin.append_ #[48, 48] 48 #[v5 4, .slice (some ⟨w5.heap.size, 0, none⟩) 1 1]).run Try.prog (w5.alloc (.cells #[.int .i64 r.kind, .string r.name, .int .i64 (n + 1)] 70)).drew = .ok (.slice (some ⟨gg, 0, none⟩) ((rforgetS s r).n 4 + 1) cg) z4 := r1
          have p1' : z4.cell? ⟨rb, 7, none⟩ = some (v5 4) := p1
          have p2' : z4.frozen? ⟨rb, 7, none⟩ = false := p2
          have c7 := r5.inv.c7
          have l5 := r5.inv.lt
          have l5' := HA5.out.lt
          have d0 := HA5.out.k
          have d1 := HA5.out.nm
          have M2 := Lib.hid m1
          have P4 : Hid (RStep B rb v5 w5 (ragainF s r) (z4.setCell ⟨rb, 7, none⟩ (.slice (some ⟨gg, 0, none⟩) ((rforgetS s r).n 4 + 1) cg))) := Lib.hid p3
          clear hs5 r5 t5 r1 p1 p2 p3 m1 hfl c0 c1 b0 b1
          go_wp2_with (fail)
          go_region_law (refine step_append_run rfl (.tmp 42) (.tmp 47) 48 rfl rfl rfl M2.out ?_)
          all_goals
            obtain ⟨z5, hz5⟩ : ∃ z5, z5 = z4.setCell ⟨rb, 7, none⟩ (.slice (some ⟨gg, 0, none⟩) ((rforgetS s r).n 4 + 1) cg) := ⟨_, rfl⟩
            rw [← hz5]
            have q' := P4.out
            rw [← hz5] at q'
            obtain ⟨v6, r6, t6⟩ := HR5.out.step q'
            have HR6 := Lib.hid r6
            have HA6 := Lib.hid (t6 _ _ HA5.out)
            have f0 := HA6.out.k
            have f1 := HA6.out.nm
            have hl6 : ∀ i, (ragainF s r).n i ≤ 1000000 := fun i => by
              match i with
              | 0 => exact Hl1.out 0
              | 1 => exact Hl1.out 1
              | 2 => exact Hl1.out 2
              | 3 => exact Hl1.out 3
              | 4 =>
                have h1 : (fo s.fails r).length ≤ 900000 := Nat.le_trans (List.length_filter_le _ _) (Hl.out 4)
                show (fo s.fails r ++ [_]).length ≤ 1000000
                simp; omega
            have HL6 := Lib.hid hl6
            clear hz5 q' r6 t6 hl6 p1' p2' d0 d1 c7 l5 l5'
            go_wp2_with (fail)
            refine (rafter_any B rb (ragainF s r) v6 r _ _ HR6.out.inv HL6.out Hnow.out).mono ?_
            rintro e w7 ⟨rfl, hs7⟩
            have HS7 := Lib.hid hs7
            clear hs7
            go_wp2
            refine bodyPost_end (results_none rfl _ _ _) rfl ⟨rfl, ?_⟩
            obtain ⟨v7, r7, _⟩ := HR6.out.step HS7.out
            have := r7.done
            rw [HE.out, Hn.out] at this
            exact this
    · have hkx : (k : Int) = n := by omega
      have hkk : min n.toNat 30 = k := by omega
      obtain ⟨E, hE⟩ : ∃ E, E = rdelay s.base s.most n := ⟨_, rfl⟩
      have hE2 : E = if s.most < D then s.most else D := by rw [hE, rdelay, hkk, ← HD.out]
      have HE := Lib.hid hE
      have c1 := HR1.out.inv.c1
      have b0 := HA1.out.k
      have b1 := HA1.out.nm
      have ht : ∃ q : Bool, decide (s.most < D) = q ∧ (if q then s.most else D) = E := by
        by_cases hq : s.most < D
        · exact ⟨true, decide_eq_true hq, by rw [hE2, if_pos hq]; rfl⟩
        · exact ⟨false, decide_eq_false hq, by rw [hE2, if_neg hq]; rfl⟩
      obtain ⟨q, hq1, hq2⟩ := ht
      have hw1 : IntKind.i64.wrap (n + 1) = n + 1 := w64 _ (by omega) (by omega)
      clear hE hE2 hkk hDb
      rcases q with _ | _
      all_goals
        simp only [if_true, Bool.false_eq_true, if_false] at hq2
        subst hq2
        go_wp2_with (fail)
        refine (rforget_any B rb s v r _ HR1.out.inv Hl1.out).mono ?_
        rintro e w5 ⟨rfl, hs5⟩
        obtain ⟨v5, r5, t5⟩ := HR1.out.step hs5
        have HR5 := Lib.hid r5
        have HA5 := Lib.hid (t5 _ _ HA1.out)
        have hfl : (fo s.fails r).length ≤ 900000 := Nat.le_trans (List.length_filter_le _ _) (Hl.out 4)
        obtain ⟨gg, cg, z4, r1, p1, p2, p3⟩ := r5.inv.app 4 (fc ⟨r, n + 1⟩) rfl (fc_one _) (Nat.le_trans hfl (by decide)) 48 (ragainF s r) ⟨rfl, rfl, rfl⟩ (fun i hi => by match i with | 0 => exact ⟨rfl, rfl⟩ | 1 => exact ⟨rfl, rfl⟩ | 2 => exact ⟨rfl, rfl⟩ | 3 => exact ⟨rfl, rfl⟩ | 4 => exact absurd rfl hi) ⟨by simp [RS.n, ragainF, rforgetS], by simp [RS.xs, ragainF, rforgetS, Hn.out]⟩
        have m1 : (Builtin.append_ #[48, 48] 48 #[v5 4, .slice (some ⟨w5.heap.size, 0, none⟩) 1 1]).run Try.prog (w5.alloc (.cells #[.int .i64 r.kind, .string r.name, .int .i64 (n + 1)] 70)).drew = .ok (.slice (some ⟨gg, 0, none⟩) ((rforgetS s r).n 4 + 1) cg) z4 := r1
        have p1' : z4.cell? ⟨rb, 7, none⟩ = some (v5 4) := p1
        have p2' : z4.frozen? ⟨rb, 7, none⟩ = false := p2
        have c7 := r5.inv.c7
        have l5 := r5.inv.lt
        have l5' := HA5.out.lt
        have d0 := HA5.out.k
        have d1 := HA5.out.nm
        have M2 := Lib.hid m1
        have P4 : Hid (RStep B rb v5 w5 (ragainF s r) (z4.setCell ⟨rb, 7, none⟩ (.slice (some ⟨gg, 0, none⟩) ((rforgetS s r).n 4 + 1) cg))) := Lib.hid p3
        clear hs5 r5 t5 r1 p1 p2 p3 m1 hfl c0 c1 b0 b1
        go_wp2_with (fail)
        go_region_law (refine step_append_run rfl (.tmp 42) (.tmp 47) 48 rfl rfl rfl M2.out ?_)
        all_goals
          obtain ⟨z5, hz5⟩ : ∃ z5, z5 = z4.setCell ⟨rb, 7, none⟩ (.slice (some ⟨gg, 0, none⟩) ((rforgetS s r).n 4 + 1) cg) := ⟨_, rfl⟩
          rw [← hz5]
          have q' := P4.out
          rw [← hz5] at q'
          obtain ⟨v6, r6, t6⟩ := HR5.out.step q'
          have HR6 := Lib.hid r6
          have HA6 := Lib.hid (t6 _ _ HA5.out)
          have f0 := HA6.out.k
          have f1 := HA6.out.nm
          have hl6 : ∀ i, (ragainF s r).n i ≤ 1000000 := fun i => by
            match i with
            | 0 => exact Hl1.out 0
            | 1 => exact Hl1.out 1
            | 2 => exact Hl1.out 2
            | 3 => exact Hl1.out 3
            | 4 =>
              have h1 : (fo s.fails r).length ≤ 900000 := Nat.le_trans (List.length_filter_le _ _) (Hl.out 4)
              show (fo s.fails r ++ [_]).length ≤ 1000000
              simp; omega
          have HL6 := Lib.hid hl6
          clear hz5 q' r6 t6 hl6 p1' p2' d0 d1 c7 l5 l5'
          go_wp2_with (fail)
          refine (rafter_any B rb (ragainF s r) v6 r _ _ HR6.out.inv HL6.out Hnow.out).mono ?_
          rintro e w7 ⟨rfl, hs7⟩
          have HS7 := Lib.hid hs7
          clear hs7
          go_wp2
          refine bodyPost_end (results_none rfl _ _ _) rfl ⟨rfl, ?_⟩
          obtain ⟨v7, r7, _⟩ := HR6.out.step HS7.out
          have := r7.done
          rw [HE.out, Hn.out] at this
          exact this
end Go.Proofs.Ythmknlflgajnpaa
