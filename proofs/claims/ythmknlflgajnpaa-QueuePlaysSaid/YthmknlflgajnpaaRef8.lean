/- The walks of the reference's queue: After. -/
import Derived.Test.YthmknlflgajnpaaRef7
import Derived.Laws.OwnMore
namespace Go.Proofs.Ythmknlflgajnpaa
open Go.RowKit
/-- a row is written in place -/
theorem RInv.poke {B rb : Nat} {s s' : RS} {v : RV} {w w1 : World} (h : RInv B rb s v w) (i : Fin 5) (hg : w.grownBy w1 (v i).ownBlock) (ho : w1.ownsRow B (ret i) (rsz i) (v i) (s'.n i) (s'.xs i))
    (hs : s'.base = s.base ∧ s'.most = s.most ∧ s'.now = s.now) (hn : ∀ k, k ≠ i → s'.n k = s.n k ∧ s'.xs k = s.xs k) : RStep B rb v w s' w1 := by
  have kg : ∀ j, j < w.heap.size → (v i).ownBlock ≠ some j → w1.heap[j]? = w.heap[j]? := fun j hj hne => hg.block j hj (fun e => hne e.symm)
  refine ⟨v, ⟨?_, h.hB, fun k => ?_, h.apart⟩, fun j hj => .inl hj, ⟨hg.os, hg.tape, hg.output, hg.size, fun j hj hF => kg j hj (fun e => hF (.inr ⟨i, e⟩))⟩⟩
  · rw [kg rb h.lt (h.off i), h.cells]
    obtain ⟨a1, a2, a3⟩ := hs
    simp [rcells, a1, a2, a3]
  · by_cases hk : k = i
    · subst hk; exact ho
    · rw [(hn k hk).1, (hn k hk).2]
      exact owns_kept (h.rows k) fun j hj => kg j (owns_lt (h.rows k) hj) (fun e => h.apart i k (fun e => hk e.symm) j e hj)
def raft (l : List Item) (r : Ref) (d : Int) : List Item := match l with
  | [] => [⟨d, r⟩]
  | x :: l => if x.ref = r then (if d < x.due then ⟨d, r⟩ else x) :: l else x :: raft l r d
theorem raft_at : ∀ (l : List Item) (r : Ref) (d : Int) (k : Nat) (hk : k < l.length), (∀ j (hj : j < l.length), j < k → l[j].ref ≠ r) → l[k].ref = r → raft l r d = if d < l[k].due then l.set k ⟨d, r⟩ else l
  | x :: l, r, d, 0, _, _, h => by
    simp only [List.getElem_cons_zero] at h ⊢
    rw [raft, if_pos h]
    split <;> rfl
  | x :: l, r, d, k + 1, hk, hno, h => by
    have hx : x.ref ≠ r := hno 0 (by simp) (by omega)
    have := raft_at l r d k (by simpa using hk) (fun j hj h1 => by have := hno (j + 1) (by simp; omega) (by omega); simpa using this) (by simpa using h)
    rw [raft, if_neg hx, this, List.getElem_cons_succ]
    split <;> rfl
theorem raft_none : ∀ (l : List Item) (r : Ref) (d : Int), (∀ j (hj : j < l.length), l[j].ref ≠ r) → raft l r d = l ++ [⟨d, r⟩]
  | [], r, d, _ => rfl
  | x :: l, r, d, h => by
    have hx : x.ref ≠ r := h 0 (by simp)
    rw [raft, if_neg hx, raft_none l r d (fun j hj => by have := h (j + 1) (by simp; omega); simpa using this)]
    rfl
theorem set_due : ∀ (l : List Item) (k : Nat) (hk : k < l.length) (d : Int), (l.set k ⟨d, l[k].ref⟩).flatMap ic = (l.flatMap ic).set (k * 3) (.int .i64 d)
  | x :: l, 0, _, d => rfl
  | x :: l, k + 1, hk, d => by
    have := set_due l k (by simpa using hk) d
    rw [List.getElem_cons_succ, List.set_cons_succ, List.flatMap_cons, List.flatMap_cons, this]
    have e : (k + 1) * 3 = (ic x).length + k * 3 := by simp [ic]; omega
    rw [e, List.set_append_right _ _ (by omega)]
    congr 2
    omega
def clampS (n : Int) : Int := if 1048576 < n then 1048576 else n
def rafterS (s : RS) (r : Ref) (n : Int) : RS := if n < 1 then raddS s r else { s with waits := raft s.waits r (s.now + clampS n) }
theorem w64 (a : Int) (h0 : 0 ≤ a) (h : a ≤ 9223372036854775807) : IntKind.i64.wrap a = a := by rw [IntKind.wrap_i64]; omega
theorem info78 : (Try.prog.info? 78).map (fun i => (i.zero, i.size, i.bytes)) = some (some (.agg #[.int .i64 0, .int .i64 0, .string ByteArray.empty]), 3, 32) := by kernel_rfl
set_option maxRecDepth 100000 in
set_option maxHeartbeats 4000000 in
theorem rafter_any (B rb : Nat) (s : RS) (v : RV) (r : Ref) (m : Int) (w : World) (h : RInv B rb s v w) (hl : ∀ i, s.n i ≤ 1000000) (hnow : 0 ≤ s.now ∧ s.now ≤ 1099511627776) :
    Calls Try.prog 31 #[.pointer (some ⟨rb, 0, none⟩), rv r, .int .i64 m] w fun e w' => e = .returned (.tuple #[]) ∧ RStep B rb v w (rafterS s r m) w' := by
  obtain ⟨W, hW⟩ : ∃ W, W = w.alloc (.cells #[.int .i64 r.kind, .string r.name] 30) := ⟨_, rfl⟩
  have hbW : Below w.heap.size w W := by rw [hW]; exact bel_alloc _ _
  have A0 : RAt rb v W w.heap.size (refBox r) := by rw [hW]; exact RAt.new h _
  have R0 := (RRun.start h).below hbW
  have hI := R0.inv
  have b0 := A0.k
  have b1 := A0.nm
  have hlt := hI.lt
  have HW := Lib.hid hW
  by_cases hm : m < 1
  · have hm' : decide (m < 1) = true := decide_eq_true hm
    have Ha := Lib.hid (show rafterS s r m = raddS s r from if_pos hm)
    have HI := Lib.hid hI
    have HR := Lib.hid R0
    have Hl := Lib.hid hl
    rw [hW] at b0 b1 hlt
    unfold rv
    clear hW hbW A0 hI h hl R0 hnow hm
    go_enter Try.func31, Try.ntmps31
    go_wp2_with (fail)
    rw [← HW.out]
    refine (radd_any B rb s v r _ HI.out Hl.out).mono ?_
    rintro e w9 ⟨rfl, hs⟩
    have HS := Lib.hid hs
    clear hs
    go_wp2
    refine bodyPost_ret (results_none rfl _ _ _) rfl ⟨rfl, ?_⟩
    rw [Ha.out]
    obtain ⟨v4, r4, _⟩ := HR.out.step HS.out
    exact r4.done
  · have hm' : decide (m < 1) = false := decide_eq_false hm
    obtain ⟨D, hD⟩ : ∃ D, D = s.now + clampS m := ⟨_, rfl⟩
    have Ha := Lib.hid (show rafterS s r m = { s with waits := raft s.waits r D } by rw [hD]; exact if_neg hm)
    obtain ⟨hn, A, c, hv, hc⟩ := row3 (f := ic) (fun _ => rfl) (hI.rows 3)
    have hl3 := hl 3
    obtain ⟨n, hn'⟩ : ∃ n, n = s.n 3 := ⟨_, rfl⟩
    have Hn' := Lib.hid hn'
    rw [← hn'] at hn hv hl3
    have c6 := hI.c6
    have c2 := hI.c2
    rw [hv] at c6
    have HVv := Lib.hid hv
    have HN := Lib.hid hn
    have HC := Lib.hid hc
    have HR := Lib.hid R0
    have HI := Lib.hid hI
    have HA := Lib.hid A0
    have Hl := Lib.hid hl
    have cl : ∃ M, M = clampS m ∧ ((1048576 < m ∧ M = 1048576) ∨ (m ≤ 1048576 ∧ M = m)) := by
      refine ⟨_, rfl, ?_⟩
      unfold clampS
      by_cases h1 : 1048576 < m
      · exact .inl ⟨h1, if_pos h1⟩
      · exact .inr ⟨by omega, if_neg h1⟩
    obtain ⟨M, hM, hcl⟩ := cl
    rw [← hM] at hD
    have hw : IntKind.i64.wrap (s.now + M) = D := by rw [w64 _ (by omega) (by omega), hD]
    have HD := Lib.hid hD
    rw [hW] at b0 b1 hlt c6 c2
    unfold rv
    clear hW hbW A0 hI hn hc hv h hl hn' R0 hM hD hnow hm
    rcases hcl with ⟨h1, rfl⟩ | ⟨h1, rfl⟩
    · have h1' : decide (1048576 < m) = true := decide_eq_true h1
      clear h1
      go_enter Try.func31, Try.ntmps31
      go_wp2
      go_loopw [6] (fun i wr => ∃ k : Nat, k ≤ n ∧ i = .int .i64 k ∧ Hid (Below W.heap.size W wr) ∧ Hid (∀ j (hj : j < s.waits.length), j < k → (s.waits[j]).ref ≠ r)) (fun i _ => n - (intOf i).toNat)
      case atStart => exact ⟨0, by omega, by go_num, Lib.hid (by rw [HW.out]; exact Below.refl _ _), Lib.hid (by intro j _ h; omega)⟩
      case round =>
        obtain ⟨k, hk, rfl, HB, H⟩ := hrel
        have d6 := G.cell_below HB.out HI.out.c6
        have d2 := G.cell_below HB.out HI.out.c2
        rw [HVv.out] at d6
        have d0 := (HA.out.below HB.out).k
        have d1 := (HA.out.below HB.out).nm
        by_cases hkn : k < n
        · have hka : k < s.waits.length := by have := HN.out; omega
          obtain ⟨g, hg, hcell⟩ := HC.out k hka
          subst hg
          have e0 := hcell wr HB.out 0 (by decide)
          have e1 := hcell wr HB.out 1 (by decide)
          have e2 := hcell wr HB.out 2 (by decide)
          obtain ⟨x, hx⟩ : ∃ x, x = s.waits[k] := ⟨_, rfl⟩
          rw [← hx] at e0 e1 e2
          replace e0 : wr.cell? ⟨g, k * 3, none⟩ = some (.int .i64 x.due) := e0
          replace e1 : wr.cell? ⟨g, k * 3 + 1, none⟩ = some (.int .i64 x.ref.kind) := e1
          replace e2 : wr.cell? ⟨g, k * 3 + 2, none⟩ = some (.string x.ref.name) := e2
          have Hx := Lib.hid hx
          clear hx hcell
          by_cases he : x.ref = r
          · have heq := run_eq_ref x.ref r
            unfold rv at heq
            rw [decide_eq_true he] at heq
            have hat := raft_at s.waits r D k hka H.out (by rw [← Hx.out]; exact he)
            rw [← Hx.out] at hat
            have Hxr := Lib.hid he
            have Hat := Lib.hid hat
            clear he hat
            by_cases hd : D < x.due
            · have hd' : decide (D < x.due) = true := decide_eq_true hd
              have Hfin := Lib.hid (Hat.out.trans (if_pos hd))
              have Hd := Lib.hid hd
              clear hd
              go_wp2
              go_quiet (fail)
              go_wp2
              go_quiet (fail)
              go_wp2
              generalize hz : (wr.drewN _).drewN _ = w3
              have hB3 : Below W.heap.size W w3 := by rw [← hz]; exact G.bdrewN (G.bdrewN HB.out _) _
              have k0 : w3.cell? ⟨g, k * 3, none⟩ = some (.int .i64 x.due) := by rw [← hz]; exact e0
              clear hz e0 e1 e2 d0 d1 d2 d6
              have k6 := G.cell_below hB3 HI.out.c6
              have k2 := G.cell_below hB3 HI.out.c2
              rw [HVv.out] at k6
              have ho2 : w3.ownsRow B 78 3 (.slice (some ⟨g, 0, none⟩) n c) n (s.waits.flatMap ic) := by
                have := G.owns_below (HI.out.rows 3) hB3
                rw [HVv.out, ← Hn'.out] at this; exact this
              have yf := ho2.frozenAt (k * 3)
              obtain ⟨st1, st2⟩ := ho2.stored (k * 3) (.int .i64 D)
              have hset : (s.waits.flatMap ic).set (k * 3) (.int .i64 D) = (raft s.waits r D).flatMap ic := by
                have e := set_due s.waits k hka D
                rw [show (s.waits[k]).ref = r by rw [← Hx.out]; exact Hxr.out] at e
                rw [Hfin.out, e]
              have hlen : (raft s.waits r D).length = s.waits.length := by rw [Hfin.out]; simp
              have q : RStep B rb v w3 { s with waits := raft s.waits r D } (w3.setCell ⟨g, k * 3, none⟩ (.int .i64 D)) := by
                refine (HI.out.below hB3).poke 3 ?_ ?_ ⟨rfl, rfl, rfl⟩ (fun i hi => by match i with | 0 => exact ⟨rfl, rfl⟩ | 1 => exact ⟨rfl, rfl⟩ | 2 => exact ⟨rfl, rfl⟩ | 3 => exact absurd rfl hi | 4 => exact ⟨rfl, rfl⟩)
                · rw [HVv.out]; exact st2
                · rw [HVv.out]
                  show World.ownsRow _ B 78 3 _ (raft s.waits r D).length ((raft s.waits r D).flatMap ic)
                  rw [hlen, ← HN.out, ← hset]
                  exact st1
              have Q := Lib.hid q
              have R3 := Lib.hid (HR.out.below hB3)
              clear ho2 st1 st2 hset hlen q hB3
              go_region
              all_goals
                go_wp2
                refine bodyPost_ret (results_none rfl _ _ _) rfl ⟨rfl, ?_⟩
                rw [Ha.out]
                obtain ⟨v4, r4, _⟩ := R3.out.step Q.out
                exact (r4.below (G.bdrew (Below.refl _ _))).done
            · have hd' : decide (D < x.due) = false := decide_eq_false hd
              have Hfin := Lib.hid (Hat.out.trans (if_neg hd))
              clear hd
              go_wp2
              go_quiet (fail)
              go_wp2
              go_quiet (fail)
              go_wp2
              refine bodyPost_ret (results_none rfl _ _ _) rfl ⟨rfl, ?_⟩
              rw [Ha.out, Hfin.out]
              exact (HR.out.below (G.bdrewN (G.bdrewN HB.out _) _)).done
          · have heq := run_eq_ref x.ref r
            unfold rv at heq
            rw [decide_eq_false he] at heq
            have hnx : ∀ j (hj : j < s.waits.length), j < k + 1 → (s.waits[j]).ref ≠ r := by
              intro j hj h1 e
              rcases Nat.lt_or_ge j k with h2 | h2
              · exact H.out j hj h2 e
              · obtain rfl : j = k := by omega
                exact he (by rw [Hx.out]; exact e)
            have Hnx := Lib.hid hnx
            clear he hnx
            go_wp2
            go_quiet (fail)
            go_wp2
            go_roundw
            case rel => exact ⟨k + 1, by omega, by go_num, Lib.hid (G.bdrewN HB.out _), Hnx⟩
            case measure => simp [intOf]; omega
        · have hkn2 : k = n := by omega
          have hfin : raft s.waits r D = s.waits ++ [⟨D, r⟩] := raft_none _ _ _ (fun j hj => H.out j hj (by have := HN.out; omega))
          have RB := HR.out.below HB.out
          obtain ⟨gg, cg, z4, r1, p1, p2, p3⟩ := RB.inv.app 3 (ic ⟨D, r⟩) rfl (ic_one _) (Hl.out 3) 47 { s with waits := raft s.waits r D } ⟨rfl, rfl, rfl⟩ (fun i hi => by match i with | 0 => exact ⟨rfl, rfl⟩ | 1 => exact ⟨rfl, rfl⟩ | 2 => exact ⟨rfl, rfl⟩ | 3 => exact absurd rfl hi | 4 => exact ⟨rfl, rfl⟩) ⟨by simp [RS.n, hfin], by simp [RS.xs, hfin]⟩
          have m1 : (Builtin.append_ #[47, 47] 47 #[v 3, .slice (some ⟨wr.heap.size, 0, none⟩) 1 1]).run Try.prog (wr.alloc (.cells #[.int .i64 D, .int .i64 r.kind, .string r.name] 78)).drew = .ok (.slice (some ⟨gg, 0, none⟩) (s.n 3 + 1) cg) z4 := r1
          have p1' : z4.cell? ⟨rb, 6, none⟩ = some (v 3) := p1
          have p2' : z4.frozen? ⟨rb, 6, none⟩ = false := p2
          rw [HVv.out] at m1 p1'
          have l3 := RB.inv.lt
          have l3' := (HA.out.below HB.out).lt
          have M2 := Lib.hid m1
          have P4 : Hid (RStep B rb v wr { s with waits := raft s.waits r D } (z4.setCell ⟨rb, 6, none⟩ (.slice (some ⟨gg, 0, none⟩) (s.n 3 + 1) cg))) := Lib.hid p3
          have HRB := Lib.hid RB
          clear r1 p1 p2 p3 m1 hfin RB
          subst hkn2
          go_wp2
          go_region_law (refine step_append_run rfl (.tmp 65) (.tmp 74) 47 rfl rfl rfl M2.out ?_)
          all_goals
            go_wp2
            refine bodyPost_end (results_none rfl _ _ _) rfl ⟨rfl, ?_⟩
            rw [Ha.out]
            obtain ⟨v4, r4, _⟩ := HRB.out.step P4.out
            exact r4.done
    · have h1' : decide (1048576 < M) = false := decide_eq_false (by omega)
      clear h1
      go_enter Try.func31, Try.ntmps31
      go_wp2
      go_loopw [6] (fun i wr => ∃ k : Nat, k ≤ n ∧ i = .int .i64 k ∧ Hid (Below W.heap.size W wr) ∧ Hid (∀ j (hj : j < s.waits.length), j < k → (s.waits[j]).ref ≠ r)) (fun i _ => n - (intOf i).toNat)
      case atStart => exact ⟨0, by omega, by go_num, Lib.hid (by rw [HW.out]; exact Below.refl _ _), Lib.hid (by intro j _ h; omega)⟩
      case round =>
        obtain ⟨k, hk, rfl, HB, H⟩ := hrel
        have d6 := G.cell_below HB.out HI.out.c6
        have d2 := G.cell_below HB.out HI.out.c2
        rw [HVv.out] at d6
        have d0 := (HA.out.below HB.out).k
        have d1 := (HA.out.below HB.out).nm
        by_cases hkn : k < n
        · have hka : k < s.waits.length := by have := HN.out; omega
          obtain ⟨g, hg, hcell⟩ := HC.out k hka
          subst hg
          have e0 := hcell wr HB.out 0 (by decide)
          have e1 := hcell wr HB.out 1 (by decide)
          have e2 := hcell wr HB.out 2 (by decide)
          obtain ⟨x, hx⟩ : ∃ x, x = s.waits[k] := ⟨_, rfl⟩
          rw [← hx] at e0 e1 e2
          replace e0 : wr.cell? ⟨g, k * 3, none⟩ = some (.int .i64 x.due) := e0
          replace e1 : wr.cell? ⟨g, k * 3 + 1, none⟩ = some (.int .i64 x.ref.kind) := e1
          replace e2 : wr.cell? ⟨g, k * 3 + 2, none⟩ = some (.string x.ref.name) := e2
          have Hx := Lib.hid hx
          clear hx hcell
          by_cases he : x.ref = r
          · have heq := run_eq_ref x.ref r
            unfold rv at heq
            rw [decide_eq_true he] at heq
            have hat := raft_at s.waits r D k hka H.out (by rw [← Hx.out]; exact he)
            rw [← Hx.out] at hat
            have Hxr := Lib.hid he
            have Hat := Lib.hid hat
            clear he hat
            by_cases hd : D < x.due
            · have hd' : decide (D < x.due) = true := decide_eq_true hd
              have Hfin := Lib.hid (Hat.out.trans (if_pos hd))
              have Hd := Lib.hid hd
              clear hd
              go_wp2
              go_quiet (fail)
              go_wp2
              go_quiet (fail)
              go_wp2
              generalize hz : (wr.drewN _).drewN _ = w3
              have hB3 : Below W.heap.size W w3 := by rw [← hz]; exact G.bdrewN (G.bdrewN HB.out _) _
              have k0 : w3.cell? ⟨g, k * 3, none⟩ = some (.int .i64 x.due) := by rw [← hz]; exact e0
              clear hz e0 e1 e2 d0 d1 d2 d6
              have k6 := G.cell_below hB3 HI.out.c6
              have k2 := G.cell_below hB3 HI.out.c2
              rw [HVv.out] at k6
              have ho2 : w3.ownsRow B 78 3 (.slice (some ⟨g, 0, none⟩) n c) n (s.waits.flatMap ic) := by
                have := G.owns_below (HI.out.rows 3) hB3
                rw [HVv.out, ← Hn'.out] at this; exact this
              have yf := ho2.frozenAt (k * 3)
              obtain ⟨st1, st2⟩ := ho2.stored (k * 3) (.int .i64 D)
              have hset : (s.waits.flatMap ic).set (k * 3) (.int .i64 D) = (raft s.waits r D).flatMap ic := by
                have e := set_due s.waits k hka D
                rw [show (s.waits[k]).ref = r by rw [← Hx.out]; exact Hxr.out] at e
                rw [Hfin.out, e]
              have hlen : (raft s.waits r D).length = s.waits.length := by rw [Hfin.out]; simp
              have q : RStep B rb v w3 { s with waits := raft s.waits r D } (w3.setCell ⟨g, k * 3, none⟩ (.int .i64 D)) := by
                refine (HI.out.below hB3).poke 3 ?_ ?_ ⟨rfl, rfl, rfl⟩ (fun i hi => by match i with | 0 => exact ⟨rfl, rfl⟩ | 1 => exact ⟨rfl, rfl⟩ | 2 => exact ⟨rfl, rfl⟩ | 3 => exact absurd rfl hi | 4 => exact ⟨rfl, rfl⟩)
                · rw [HVv.out]; exact st2
                · rw [HVv.out]
                  show World.ownsRow _ B 78 3 _ (raft s.waits r D).length ((raft s.waits r D).flatMap ic)
                  rw [hlen, ← HN.out, ← hset]
                  exact st1
              have Q := Lib.hid q
              have R3 := Lib.hid (HR.out.below hB3)
              clear ho2 st1 st2 hset hlen q hB3
              go_region
              all_goals
                go_wp2
                refine bodyPost_ret (results_none rfl _ _ _) rfl ⟨rfl, ?_⟩
                rw [Ha.out]
                obtain ⟨v4, r4, _⟩ := R3.out.step Q.out
                exact (r4.below (G.bdrew (Below.refl _ _))).done
            · have hd' : decide (D < x.due) = false := decide_eq_false hd
              have Hfin := Lib.hid (Hat.out.trans (if_neg hd))
              clear hd
              go_wp2
              go_quiet (fail)
              go_wp2
              go_quiet (fail)
              go_wp2
              refine bodyPost_ret (results_none rfl _ _ _) rfl ⟨rfl, ?_⟩
              rw [Ha.out, Hfin.out]
              exact (HR.out.below (G.bdrewN (G.bdrewN HB.out _) _)).done
          · have heq := run_eq_ref x.ref r
            unfold rv at heq
            rw [decide_eq_false he] at heq
            have hnx : ∀ j (hj : j < s.waits.length), j < k + 1 → (s.waits[j]).ref ≠ r := by
              intro j hj h1 e
              rcases Nat.lt_or_ge j k with h2 | h2
              · exact H.out j hj h2 e
              · obtain rfl : j = k := by omega
                exact he (by rw [Hx.out]; exact e)
            have Hnx := Lib.hid hnx
            clear he hnx
            go_wp2
            go_quiet (fail)
            go_wp2
            go_roundw
            case rel => exact ⟨k + 1, by omega, by go_num, Lib.hid (G.bdrewN HB.out _), Hnx⟩
            case measure => simp [intOf]; omega
        · have hkn2 : k = n := by omega
          have hfin : raft s.waits r D = s.waits ++ [⟨D, r⟩] := raft_none _ _ _ (fun j hj => H.out j hj (by have := HN.out; omega))
          have RB := HR.out.below HB.out
          obtain ⟨gg, cg, z4, r1, p1, p2, p3⟩ := RB.inv.app 3 (ic ⟨D, r⟩) rfl (ic_one _) (Hl.out 3) 47 { s with waits := raft s.waits r D } ⟨rfl, rfl, rfl⟩ (fun i hi => by match i with | 0 => exact ⟨rfl, rfl⟩ | 1 => exact ⟨rfl, rfl⟩ | 2 => exact ⟨rfl, rfl⟩ | 3 => exact absurd rfl hi | 4 => exact ⟨rfl, rfl⟩) ⟨by simp [RS.n, hfin], by simp [RS.xs, hfin]⟩
          have m1 : (Builtin.append_ #[47, 47] 47 #[v 3, .slice (some ⟨wr.heap.size, 0, none⟩) 1 1]).run Try.prog (wr.alloc (.cells #[.int .i64 D, .int .i64 r.kind, .string r.name] 78)).drew = .ok (.slice (some ⟨gg, 0, none⟩) (s.n 3 + 1) cg) z4 := r1
          have p1' : z4.cell? ⟨rb, 6, none⟩ = some (v 3) := p1
          have p2' : z4.frozen? ⟨rb, 6, none⟩ = false := p2
          rw [HVv.out] at m1 p1'
          have l3 := RB.inv.lt
          have l3' := (HA.out.below HB.out).lt
          have M2 := Lib.hid m1
          have P4 : Hid (RStep B rb v wr { s with waits := raft s.waits r D } (z4.setCell ⟨rb, 6, none⟩ (.slice (some ⟨gg, 0, none⟩) (s.n 3 + 1) cg))) := Lib.hid p3
          have HRB := Lib.hid RB
          clear r1 p1 p2 p3 m1 hfin RB
          subst hkn2
          go_wp2
          go_region_law (refine step_append_run rfl (.tmp 65) (.tmp 74) 47 rfl rfl rfl M2.out ?_)
          all_goals
            go_wp2
            refine bodyPost_end (results_none rfl _ _ _) rfl ⟨rfl, ?_⟩
            rw [Ha.out]
            obtain ⟨v4, r4, _⟩ := HRB.out.step P4.out
            exact r4.done
end Go.Proofs.Ythmknlflgajnpaa
