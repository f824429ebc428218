/- The walk of the reference's Tick: the least one that waits, again and again. -/
import Derived.Test.YthmknlflgajnpaaRef11
import Derived.Test.YthmknlflgajnpaaHp11
import Derived.Deep.CutBlock
namespace Go.Proofs.Ythmknlflgajnpaa
set_option linter.unusedVariables false
set_option linter.unusedSimpArgs false
open Go.RowKit
theorem size78 : (Try.prog.info? 78).map (·.size) = some 3 := by kernel_rfl
/-- what the reference does behind its clock -/
inductive RT : RS → RS → Prop
  | stop (s : RS) (h : ∀ x ∈ s.waits, s.now < x.due) : RT s s
  | step (s : RS) (k : Nat) (hk : k < s.waits.length) (hmin : ∀ j (hj : j < s.waits.length), LE s.waits[k] s.waits[j]) (hd : s.waits[k].due ≤ s.now) (s' : RS)
      (h : RT (raddS { s with waits := s.waits.take k ++ s.waits.drop (k + 1) } s.waits[k].ref) s') : RT s s'
def RTick (B rb : Nat) (v : RV) (s : RS) (w w' : World) : Prop := ∃ s', RT s s' ∧ RStep B rb v w s' w'
theorem le_due {a b : Item} (h : LE a b) : a.due ≤ b.due := by
  unfold LE at h
  by_cases h1 : b.due < a.due
  · have := (less_iff b a).2 (.inl h1)
    rw [this] at h; cases h
  · omega
/-- sizes that the walk needs -/
structure RSmall (s : RS) : Prop where
  l1 : s.line.length + s.waits.length ≤ 900000
  l2 : s.marked.length + s.waits.length ≤ 900000
  l3 : s.busy.length ≤ 900000
  l4 : s.fails.length ≤ 900000
  names : ∀ x ∈ s.waits, x.ref.name.size ≤ 1000000
theorem RSmall.n {s : RS} (h : RSmall s) (i : Fin 5) : s.n i ≤ 1000000 := by
  obtain ⟨h1, h2, h3, h4, _⟩ := h
  match i with
  | 0 => show s.line.length ≤ _; omega
  | 1 => show s.marked.length ≤ _; omega
  | 2 => show s.busy.length ≤ _; omega
  | 3 => show s.waits.length ≤ _; omega
  | 4 => show s.fails.length ≤ _; omega
theorem radd_small {s : RS} {r : Ref} (h : RSmall s) (l : List Item) (hl : l.length + 1 = s.waits.length) (hm : ∀ x ∈ l, x ∈ s.waits) : RSmall (raddS { s with waits := l } r) ∧ (raddS { s with waits := l } r).waits = l := by
  obtain ⟨h1, h2, h3, h4, h5⟩ := h
  have hn : ∀ x ∈ l, x.ref.name.size ≤ 1000000 := fun x hx => h5 x (hm x hx)
  unfold raddS
  split
  · exact ⟨⟨by show s.line.length + l.length ≤ _; omega, by show s.marked.length + l.length ≤ _; omega, h3, h4, hn⟩, rfl⟩
  · split
    · exact ⟨⟨by show s.line.length + l.length ≤ _; omega, by simp; omega, h3, h4, hn⟩, rfl⟩
    · exact ⟨⟨by simp; omega, by simp; omega, h3, h4, hn⟩, rfl⟩
/-- the loop's relation -/
def RLoop (B rb : Nat) (v0 : RV) (w0 : World) (s0 : RS) (g : Nat) (wr : World) : Prop :=
  ∃ sa v1, RRun B rb v0 w0 sa v1 wr ∧ sa.waits.length = g ∧ RSmall sa ∧ ∀ s', RT sa s' → RT s0 s'
theorem owns_cells {w : World} {B e size n c g : Nat} {xs : List Value} (h : w.ownsRow B e size (.slice (some ⟨g, 0, none⟩) n c) n xs) : n ≤ c ∧ c ≤ maxLen ∧ ∀ j u, xs[j]? = some u → w.cell? ⟨g, j, none⟩ = some u := by
  have hx := G.HasRow.of_owns h
  obtain ⟨hl, ⟨h0, _⟩ | ⟨g', cap, cur, hv, h1, h2, h3, h4, h5, h6⟩⟩ := h
  · cases h0
  · cases hv
    obtain ⟨_, A, c, hv, _, _, hc⟩ := hx
    cases hv
    refine ⟨h3, h4, fun j u hj => ?_⟩
    obtain ⟨ad, ha, hcell⟩ := hc j u hj
    cases ha
    rw [G.add_plain, Nat.zero_add] at hcell
    exact hcell
theorem slice_to (g n c k : Nat) (hk : k ≤ c) (W : World) : (Instr.slice 47 (.slice (some ⟨g, 0, none⟩) n c) none (some (.int .i64 k)) none).run Try.prog W = .ok (.slice (some ⟨g, 0, none⟩) k c) W := by
  have : (k : Int) ≤ c := by omega
  simp [Instr.slice, Instr.sliceBounds, Instr.sliceBound, asIntOf, go_sem, this, G.add_plain]
  intro hh; omega
theorem slice_from (g n c k : Nat) (hk : k + 1 ≤ n) (hc : n ≤ c) : ∃ ad, (∀ W : World, (Instr.slice 47 (.slice (some ⟨g, 0, none⟩) n c) (some (.int .i64 ((k : Int) + 1))) none none).run Try.prog W = .ok (.slice (some ad) (n - (k + 1)) (c - (k + 1))) W) ∧ (k + 1 < n → ad = ⟨g, (k + 1) * 3, none⟩) := by
  refine ⟨if c = k + 1 then ⟨g, 0, none⟩ else ⟨g, (k + 1) * 3, none⟩, fun W => ?_, fun h => ?_⟩
  · have h1 : (0 : Int) ≤ (k : Int) + 1 := by omega
    have h2 : (k : Int) + 1 ≤ n := by omega
    have h3 : ((k : Int) + 1).toNat = k + 1 := by omega
    simp [Instr.slice, Instr.sliceBounds, Instr.sliceBound, asIntOf, go_sem, h1, h2, h3, G.add_plain]
    split <;> rfl
  · rw [if_neg (by omega)]
theorem rstep_new {B rb : Nat} {s : RS} {v : RV} {w : World} (h : RInv B rb s v w) (l : List Item) {w1 : World} (hb : Below w.heap.size w w1) {x : Value} {n : Nat} (ho : w1.ownsRow w.heap.size 78 3 x n (l.flatMap ic)) (hn : n = l.length) :
    RStep B rb v w { s with waits := l } (w1.setCell ⟨rb, 6, none⟩ x) := by
  subst hn
  refine h.new 3 x { s with waits := l } hb ho ⟨rfl, rfl, rfl⟩ (fun k hk => ?_)
  match k with
  | 0 => exact ⟨rfl, rfl⟩
  | 1 => exact ⟨rfl, rfl⟩
  | 2 => exact ⟨rfl, rfl⟩
  | 4 => exact ⟨rfl, rfl⟩
  | 3 => exact absurd rfl hk
theorem ics_len (l : List Item) : (l.flatMap ic).length = l.length * 3 := by
  induction l with
  | nil => rfl
  | cons a l ih => rw [List.flatMap_cons, List.length_append, ih]; simp [ic]; omega
theorem ic_all (l : List Item) : ∀ u ∈ l.flatMap ic, u.oneCell' = true := by
  intro u hu
  obtain ⟨x, _, hx⟩ := List.mem_flatMap.1 hu
  exact ic_one3 x u hx
theorem ic_take (l : List Item) (k j : Nat) (u : Value) (h : ((l.take k).flatMap ic)[j]? = some u) : (l.flatMap ic)[j]? = some u := by
  have e : l.flatMap ic = (l.take k).flatMap ic ++ (l.drop k).flatMap ic := by rw [← List.flatMap_append, List.take_append_drop]
  have hj : j < ((l.take k).flatMap ic).length := by
    rcases Nat.lt_or_ge j ((l.take k).flatMap ic).length with h1 | h1
    · exact h1
    · rw [List.getElem?_eq_none h1] at h; cases h
  rw [e, List.getElem?_append_left hj]; exact h
theorem ic_drop (l : List Item) (k j : Nat) (u : Value) (hk : k ≤ l.length) (h : ((l.drop k).flatMap ic)[j]? = some u) : (l.flatMap ic)[k * 3 + j]? = some u := by
  have e : l.flatMap ic = (l.take k).flatMap ic ++ (l.drop k).flatMap ic := by rw [← List.flatMap_append, List.take_append_drop]
  have hl : ((l.take k).flatMap ic).length = k * 3 := by rw [ics_len, List.length_take]; omega
  rw [e, List.getElem?_append_right (by omega), hl, show k * 3 + j - k * 3 = j by omega]; exact h
set_option maxRecDepth 100000 in
set_option maxHeartbeats 8000000 in
theorem rtick_any (B rb : Nat) (s : RS) (v : RV) (m : Int) (w : World) (h : RInv B rb s v w) (hs : RSmall s) (hnow : 0 ≤ s.now ∧ s.now ≤ 1099511627776) :
    Calls Try.prog 36 #[.pointer (some ⟨rb, 0, none⟩), .int .i64 m] w fun e w' => e = .returned (.tuple #[]) ∧ RTick B rb v { s with now := s.now + clamp0 m } w w' := by
  obtain ⟨M, hM⟩ : ∃ M, M = clamp0 m := ⟨_, rfl⟩
  have hM0 : 0 ≤ M ∧ M ≤ 1048576 := by
    rw [hM]; unfold clamp0 clampS
    split
    · omega
    · split <;> omega
  have hcl : (m < 0 ∧ M = 0) ∨ (¬ m < 0 ∧ 1048576 < m ∧ M = 1048576) ∨ (¬ m < 0 ∧ ¬ 1048576 < m ∧ M = m) := by
    rw [hM]; unfold clamp0 clampS
    split
    · omega
    · split <;> omega
  rw [← hM]
  obtain ⟨s0, hs0⟩ : ∃ s0 : RS, s0 = { s with now := s.now + M } := ⟨_, rfl⟩
  rw [← hs0]
  have hw : IntKind.i64.wrap (s.now + M) = s.now + M := w64 _ (by omega) (by omega)
  have hst := h.clock (s.now + M)
  rw [← hs0] at hst
  have hsm : RSmall s0 := by rw [hs0]; exact ⟨hs.l1, hs.l2, hs.l3, hs.l4, hs.names⟩
  have HR := Lib.hid (show RLoop B rb v w s0 s0.waits.length (w.setCell ⟨rb, 2, none⟩ (.int .i64 (s.now + M))) from (by
    obtain ⟨v1, h1, _⟩ := (RRun.start h).step hst
    exact ⟨s0, v1, h1, rfl, hsm, fun _ p => p⟩))
  have c2 := h.c2
  have f2 := h.free 2
  have hlt := h.lt
  have HW := Lib.hid hw
  have HCL := Lib.hid hcl
  clear hst hsm hM h hs hs0 hM0 hnow hw hcl
  go_enter Try.func36, Try.ntmps36
  go_upto_if 9 with (fail)
  go_cut [1, 8, 9] from 8 to 90 (fun a _ _ w1 => (∃ b : Int, a = .int .i64 b ∧ ((b = 0 ∧ m < 0) ∨ (b = m ∧ ¬ m < 0))) ∧ w = w1)
  case first =>
    by_cases h1 : m < 0
    · have h1' : decide (m < 0) = true := decide_eq_true h1
      go_wp2
      go_meet
      case rel => exact ⟨⟨0, rfl, .inl ⟨rfl, h1⟩⟩, rfl⟩
    · have h1' : decide (m < 0) = false := decide_eq_false h1
      go_wp2
      go_meet
      case rel => exact ⟨⟨m, rfl, .inr ⟨rfl, h1⟩⟩, rfl⟩
  case rest =>
    obtain ⟨⟨b, rfl, hb⟩, rfl⟩ := hcut
    have HB0 := Lib.hid hb
    clear hb
    go_upto_if 11 with (fail)
    go_cut [1, 10, 11] from 12 to 90 (fun a _ _ w1 => a = .int .i64 M ∧ w = w1)
    case first =>
      by_cases h1 : 1048576 < b
      · have h1' : decide (1048576 < b) = true := decide_eq_true h1
        have e := Lib.hid (show (1048576 : Int) = M by have := HCL.out; have := HB0.out; omega)
        go_wp2
        go_meet
        case rel => exact ⟨by rw [← e.out], rfl⟩
      · have h1' : decide (1048576 < b) = false := decide_eq_false h1
        have e := Lib.hid (show b = M by have := HCL.out; have := HB0.out; omega)
        go_wp2
        go_meet
        case rel => exact ⟨by rw [← e.out], rfl⟩
    case rest =>
      obtain ⟨rfl, rfl⟩ := hcut
      have hw := HW.out
      go_upto_block 0 with (fail)
      clear hw c2 f2 hlt
      go_wp2_with (fail)
      go_loopg [] s0.waits.length (fun gk wr => Hid (RLoop B rb v w s0 gk wr))
      case atStart => exact HR
      case round =>
        obtain ⟨sa, v1, hrun, hg, hsm, hrt⟩ := hrel.out
        have HRun := Lib.hid hrun
        have HG := Lib.hid hg
        have HSM := Lib.hid hsm
        have HRT := Lib.hid hrt
        have hn3 : sa.n 3 = sa.waits.length := rfl
        have hrow := hrun.inv.rows 3
        obtain ⟨A, c, hv⟩ := owns_shape hrow
        have c6 := hrun.inv.c6
        have hrl := hrun.inv.lt
        rw [hv, hn3] at c6
        have hN := hsm.n 3
        rw [hn3] at hN
        by_cases hp : sa.waits.length = 0
        · rw [hp] at c6
          have HP := Lib.hid hp
          clear hrun hg hsm hrt hrel hp hv hrow hn3 hN
          go_wp2
          refine bodyPost_end (results_none rfl _ _ _) rfl ⟨rfl, sa, HRT.out _ (.stop _ ?_), HRun.out.done⟩
          intro x hx
          have := HP.out
          rw [List.length_eq_zero_iff] at this
          rw [this] at hx; cases hx
        · obtain ⟨N, hNe⟩ : ∃ N, N = sa.waits.length := ⟨_, rfl⟩
          rw [← hNe] at c6 hN hp
          obtain ⟨g, hA⟩ : ∃ g, A = some ⟨g, 0, none⟩ := by
            rcases hrow.2 with ⟨h0, h1⟩ | ⟨g, _, _, h1, _⟩
            · rw [hn3, ← hNe] at h1; exact absurd h1 hp
            · rw [hv] at h1; cases h1; exact ⟨g, rfl⟩
          subst hA
          rw [hv] at hrow
          obtain ⟨hNc, hcm, hcell⟩ := owns_cells hrow
          rw [hn3, ← hNe] at hNc
          unfold maxLen at hcm
          have HNe := Lib.hid hNe
          have HCell : Hid (∀ k (hk : k < sa.waits.length) W, Below wr.heap.size wr W → W.cell? ⟨g, k * 3, none⟩ = some (.int .i64 sa.waits[k].due) ∧ W.cell? ⟨g, k * 3 + 1, none⟩ = some (.int .i64 sa.waits[k].ref.kind) ∧ W.cell? ⟨g, k * 3 + 2, none⟩ = some (.string sa.waits[k].ref.name)) := Lib.hid (fun k hk W hb => by
            have f3 := flat3 ic (fun _ => rfl) sa.waits k hk
            refine ⟨G.cell_below hb (hcell _ _ ?_), G.cell_below hb (hcell _ _ ?_), G.cell_below hb (hcell _ _ ?_)⟩
            · exact (f3 0 (by decide)).trans rfl
            · exact (f3 1 (by decide)).trans rfl
            · exact (f3 2 (by decide)).trans rfl)
          have HRng : Hid (∀ k (hk : k < sa.waits.length) W, Below wr.heap.size wr W → W.rangeAt g (k * 3) (ic sa.waits[k])) := Lib.hid (fun k hk W hb j u hj => by
            have hj3 : j < 3 := by
              rcases Nat.lt_or_ge j 3 with h1 | h1
              · exact h1
              · rw [List.getElem?_eq_none (by simpa [ic] using h1)] at hj; cases hj
            exact G.cell_below hb (hcell _ _ ((flat3 ic (fun _ => rfl) sa.waits k hk j hj3).trans hj)))
          have HC6 : Hid (∀ W, Below wr.heap.size wr W → W.cell? ⟨rb, 6, none⟩ = some (.slice (some ⟨g, 0, none⟩) N c)) := Lib.hid (fun W hb => G.cell_below hb c6)
          have HRow := Lib.hid hcell
          have h0N : 0 < N := by omega
          clear hrun hg hsm hrt hrel hv hrow hn3 hNe hcell hp
          obtain ⟨wo, rfl⟩ : ∃ x, x = wr := ⟨wr, rfl⟩
          go_upto_block 2 with (fail)
          clear c6
          go_cut [4, 5] from 21 to 90 (fun a _ w1 => ∃ k : Nat, a = .int .i64 k ∧ k < N ∧ Hid (∀ (hk : k < sa.waits.length) j (hj : j < sa.waits.length), LE sa.waits[k] sa.waits[j]) ∧ Hid (Below wo.heap.size wo w1))
          case first =>
            go_wp2_with (fail)
            go_loopw [4, 5] (fun a b w1 => ∃ k i : Nat, a = .int .i64 k ∧ b = .int .i64 i ∧ k < N ∧ i ≤ N ∧ Hid (∀ (hk : k < sa.waits.length) j (hj : j < sa.waits.length), j < i → LE sa.waits[k] sa.waits[j]) ∧ Hid (Below wo.heap.size wo w1)) (fun _ i _ => N - (intOf i).toNat)
            case atStart => exact ⟨0, 0, by go_num, by go_num, by omega, by omega, Lib.hid (fun _ j _ h => by omega), Lib.hid (Below.refl _ _)⟩
            case round =>
              obtain ⟨k, i, rfl, rfl, hk, hi, HMIN, HB⟩ := hrel
              have d6 := HC6.out wr HB.out
              have hrl2 : rb < wr.heap.size := Nat.lt_of_lt_of_le hrl HB.out.size
              by_cases hlt : i < N
              · have hii : i < sa.waits.length := by have := HNe.out; omega
                have hkk : k < sa.waits.length := by have := HNe.out; omega
                obtain ⟨x, hx⟩ : ∃ x, x = sa.waits[i] := ⟨_, rfl⟩
                obtain ⟨y, hy⟩ : ∃ y, y = sa.waits[k] := ⟨_, rfl⟩
                have nx : x.ref.name.size ≤ 1000000 := by rw [hx]; exact HSM.out.names _ (List.getElem_mem _)
                have ny : y.ref.name.size ≤ 1000000 := by rw [hy]; exact HSM.out.names _ (List.getElem_mem _)
                have HX := Lib.hid hx
                have HY := Lib.hid hy
                have c39 := ahead_any x y wr.drew nx ny
                have HR1 : Hid (∀ V, Below wo.heap.size wo V → V.rangeAt g (i * 3) (ic x)) := Lib.hid (fun V hV => by rw [hx]; exact HRng.out i hii V hV)
                have HR2 : Hid (∀ V, Below wo.heap.size wo V → V.rangeAt g (k * 3) (ic y)) := Lib.hid (fun V hV => by rw [hy]; exact HRng.out k hkk V hV)
                clear hx hy nx ny
                cases hL : lessB x y
                · rw [hL] at c39
                  have C := Lib.hid c39
                  have HM2 : Hid (∀ (hk : k < sa.waits.length) j (hj : j < sa.waits.length), j < i + 1 → LE sa.waits[k] sa.waits[j]) := Lib.hid (fun hk j hj h => by
                    rcases Nat.lt_or_ge j i with h2 | h2
                    · exact HMIN.out hk j hj h2
                    · obtain rfl : j = i := by omega
                      rw [← HX.out, ← HY.out]; exact hL)
                  clear c39 hL
                  go_wp2
                  refine wp_region_held_drew (S := fun V => Below wo.heap.size wo V) (by kernel_rfl) (G.bdrewN HB.out 1) (fun hS0 => ?_)
                  refine tk 0 36 (.pointer (some ⟨rb, 0, none⟩)) ?_
                  try simp only [s1, s2, s3]
                  refine tk 1 37 (.pointer (some ⟨rb, 0, none⟩)) ?_
                  try simp only [s1, s2, s3]
                  refine tk 2 38 (.pointer (some ⟨rb, 6, none⟩)) ?_
                  try simp only [s1, s2, s3]
                  refine tk 3 39 (.slice (some ⟨g, 0, none⟩) N c) ?_ (hv := by (intro V hV; have c6 := HC6.out V hV; clear hV; go_simp; try rfl))
                  try simp only [s1, s2, s3]
                  refine tk 4 40 (.int .i64 i) ?_
                  try simp only [s1, s2, s3]
                  refine tk 5 41 (.pointer (some ⟨g, i * 3, none⟩)) ?_
                  try simp only [s1, s2, s3]
                  refine tk 6 42 (iv x) ?_ (hv := by exact load_mid_yields 78 (.tmp 41) rfl g (i * 3) rfl (ic x) _ (fun V hV => HR1.out V hV) Try.underlying78 rfl size78)
                  try simp only [s1, s2, s3]
                  refine tk 7 43 (.pointer (some ⟨rb, 0, none⟩)) ?_
                  try simp only [s1, s2, s3]
                  refine tk 8 44 (.pointer (some ⟨rb, 0, none⟩)) ?_
                  try simp only [s1, s2, s3]
                  refine tk 9 45 (.pointer (some ⟨rb, 6, none⟩)) ?_
                  try simp only [s1, s2, s3]
                  refine tk 10 46 (.slice (some ⟨g, 0, none⟩) N c) ?_ (hv := by (intro V hV; have c6 := HC6.out V hV; clear hV; go_simp; try rfl))
                  try simp only [s1, s2, s3]
                  refine tk 11 47 (.int .i64 k) ?_
                  try simp only [s1, s2, s3]
                  refine tk 12 48 (.pointer (some ⟨g, k * 3, none⟩)) ?_
                  try simp only [s1, s2, s3]
                  refine tk 13 49 (iv y) ?_ (hv := by exact load_mid_yields 78 (.tmp 48) rfl g (k * 3) rfl (ic y) _ (fun V hV => HR2.out V hV) Try.underlying78 rfl size78)
                  try simp only [s1, s2, s3]
                  refine wpAnyH_ready (rs := [14]) (by kernel_rfl) (by simp) ?_
                  refine AllReadyH.cons rfl (fun K hK => ?_) ?_
                  · rw [if_pos (by rfl)]
                    go_simp
                    go_at_call 39
                    refine C.out.mono ?_
                    rintro e w2 ⟨rfl, hb2⟩
                    have HB2 := Lib.hid (G.bthen (G.bdrewN HB.out 1) hb2)
                    clear hb2
                    dsimp only
                    refine hK.out _ _ (HB2.out) (fun hHeld => ?_)
                    clear hK K
                    try simp only [Act.put, s1, s2, s3]
                    refine wpAnyH_done (by kernel_rfl) ?_ _
                    go_wp2
                    go_roundw
                    case rel => exact ⟨k, i + 1, rfl, by go_num, hk, by omega, HM2, HB2⟩
                    case measure => simp [intOf]; omega
                  exact AllReadyH.nil
                · rw [hL] at c39
                  have C := Lib.hid c39
                  have HM2 : Hid (∀ (hk : i < sa.waits.length) j (hj : j < sa.waits.length), j < i + 1 → LE sa.waits[i] sa.waits[j]) := Lib.hid (fun hk j hj h => by
                    rcases Nat.lt_or_ge j i with h2 | h2
                    · refine LE.trans (LE.of_less ?_) (HMIN.out hkk j hj h2)
                      rw [← HX.out, ← HY.out]; exact hL
                    · obtain rfl : j = i := by omega
                      exact LE.refl _)
                  clear c39 hL
                  go_wp2
                  refine wp_region_held_drew (S := fun V => Below wo.heap.size wo V) (by kernel_rfl) (G.bdrewN HB.out 1) (fun hS0 => ?_)
                  refine tk 0 36 (.pointer (some ⟨rb, 0, none⟩)) ?_
                  try simp only [s1, s2, s3]
                  refine tk 1 37 (.pointer (some ⟨rb, 0, none⟩)) ?_
                  try simp only [s1, s2, s3]
                  refine tk 2 38 (.pointer (some ⟨rb, 6, none⟩)) ?_
                  try simp only [s1, s2, s3]
                  refine tk 3 39 (.slice (some ⟨g, 0, none⟩) N c) ?_ (hv := by (intro V hV; have c6 := HC6.out V hV; clear hV; go_simp; try rfl))
                  try simp only [s1, s2, s3]
                  refine tk 4 40 (.int .i64 i) ?_
                  try simp only [s1, s2, s3]
                  refine tk 5 41 (.pointer (some ⟨g, i * 3, none⟩)) ?_
                  try simp only [s1, s2, s3]
                  refine tk 6 42 (iv x) ?_ (hv := by exact load_mid_yields 78 (.tmp 41) rfl g (i * 3) rfl (ic x) _ (fun V hV => HR1.out V hV) Try.underlying78 rfl size78)
                  try simp only [s1, s2, s3]
                  refine tk 7 43 (.pointer (some ⟨rb, 0, none⟩)) ?_
                  try simp only [s1, s2, s3]
                  refine tk 8 44 (.pointer (some ⟨rb, 0, none⟩)) ?_
                  try simp only [s1, s2, s3]
                  refine tk 9 45 (.pointer (some ⟨rb, 6, none⟩)) ?_
                  try simp only [s1, s2, s3]
                  refine tk 10 46 (.slice (some ⟨g, 0, none⟩) N c) ?_ (hv := by (intro V hV; have c6 := HC6.out V hV; clear hV; go_simp; try rfl))
                  try simp only [s1, s2, s3]
                  refine tk 11 47 (.int .i64 k) ?_
                  try simp only [s1, s2, s3]
                  refine tk 12 48 (.pointer (some ⟨g, k * 3, none⟩)) ?_
                  try simp only [s1, s2, s3]
                  refine tk 13 49 (iv y) ?_ (hv := by exact load_mid_yields 78 (.tmp 48) rfl g (k * 3) rfl (ic y) _ (fun V hV => HR2.out V hV) Try.underlying78 rfl size78)
                  try simp only [s1, s2, s3]
                  refine wpAnyH_ready (rs := [14]) (by kernel_rfl) (by simp) ?_
                  refine AllReadyH.cons rfl (fun K hK => ?_) ?_
                  · rw [if_pos (by rfl)]
                    go_simp
                    go_at_call 39
                    refine C.out.mono ?_
                    rintro e w2 ⟨rfl, hb2⟩
                    have HB2 := Lib.hid (G.bthen (G.bdrewN HB.out 1) hb2)
                    clear hb2
                    dsimp only
                    refine hK.out _ _ (HB2.out) (fun hHeld => ?_)
                    clear hK K
                    try simp only [Act.put, s1, s2, s3]
                    refine wpAnyH_done (by kernel_rfl) ?_ _
                    go_wp2
                    go_roundw
                    case rel => exact ⟨i, i + 1, rfl, by go_num, hlt, by omega, HM2, HB2⟩
                    case measure => simp [intOf]; omega
                  exact AllReadyH.nil
              · have HM2 : Hid (∀ (hk : k < sa.waits.length) j (hj : j < sa.waits.length), LE sa.waits[k] sa.waits[j]) := Lib.hid (fun hk j hj => HMIN.out hk j hj (by have := HNe.out; omega))
                have hiN : i = N := by omega
                subst hiN
                go_wp2
                go_meet
                case rel => exact ⟨k, rfl, hk, HM2, HB⟩
          case rest =>
            obtain ⟨k, rfl, hk, HMIN, HB⟩ := hcut
            have hkk : k < sa.waits.length := by have := HNe.out; omega
            obtain ⟨x, hx⟩ : ∃ x, x = sa.waits[k] := ⟨_, rfl⟩
            obtain ⟨p0, p1, p2⟩ := HCell.out k hkk wc HB.out
            rw [← hx] at p0 p1 p2
            have d6 := HC6.out wc HB.out
            obtain ⟨xb, hxb⟩ : ∃ xb, xb = wc.heap.size := ⟨_, rfl⟩
            obtain ⟨W2, hW2⟩ : ∃ W2, W2 = (wc.alloc (.cells #[.int .i64 0, .int .i64 0, .string ⟨#[]⟩] 78)).setRow wc.heap.size (ica x) := ⟨_, rfl⟩
            have hbW : Below wc.heap.size wc W2 := by rw [hW2]; exact bel_allocRow _ _ _ _
            have hbx : W2.heap[xb]? = some (.cells (ica x) 78 (0, 0)) := by rw [hW2, hxb]; exact setRow_heap _ _ _ _ _ _ (G.heap_new _ _)
            have HB2 := Lib.hid (G.bthen HB.out hbW)
            have lx : xb < W2.heap.size := (Array.getElem?_eq_some_iff.1 hbx).1
            have hox : wo.heap.size ≤ xb := by rw [hxb]; exact HB.out.size
            have HAx : Hid (RAt rb v1 W2 xb (.cells (ica x) 78 (0, 0))) := Lib.hid ⟨lx, fun hf => by have := HRun.out.inv.foot_lt hf; omega, hbx⟩
            have e0 : W2.cell? ⟨xb, 0, none⟩ = some (.int .i64 x.due) := by simp [World.cell?, hbx, ica]
            have HX := Lib.hid hx
            have HW2 := Lib.hid hW2
            have HXB := Lib.hid hxb
            have HKK := Lib.hid hkk
            have c2 : W2.cell? ⟨rb, 2, none⟩ = some (.int .i64 sa.now) := G.cell_below HB2.out HRun.out.inv.c2
            have hrl2 : rb < W2.heap.size := Nat.lt_of_lt_of_le hrl HB2.out.size
            have hrlc : rb < wc.heap.size := Nat.lt_of_lt_of_le hrl HB.out.size
            clear hbW hbx hxb hW2 hx hox
            go_upto_region 13 with ((refine wpList_store_row rfl 78 (.tmp 6) (.tmp 58) rfl _ (ica x) rfl rfl 78 _ (G.heap_new _ _) size78 rfl (ica_one _) ?_); rw [← HW2.out, ← HXB.out])
            clear p0 p1 p2 d6
            by_cases hd : sa.now < x.due
            · have hd' : decide (sa.now < x.due) = true := decide_eq_true hd
              have HD := Lib.hid hd
              clear hd
              go_wp2
              go_quiet (fail)
              go_wp2
              refine bodyPost_end (results_none rfl _ _ _) rfl ⟨rfl, sa, HRT.out _ (.stop _ ?_), (HRun.out.below (G.bdrewN HB2.out _)).done⟩
              intro z hz
              obtain ⟨j, hj, rfl⟩ := List.getElem_of_mem hz
              have h1 := HMIN.out HKK.out j hj
              rw [← HX.out] at h1
              have h2 := le_due h1
              have h3 := HD.out
              omega
            · have hd' : decide (sa.now < x.due) = false := decide_eq_false hd
              have HD := Lib.hid hd
              clear hd
              go_wp2
              go_quiet (fail)
              generalize hw3 : W2.drewN _ = W3
              have HB3 : Hid (Below wo.heap.size wo W3) := Lib.hid (by rw [← hw3]; exact G.bdrewN HB2.out _)
              have HA3 : Hid (RAt rb v1 W3 xb (.cells (ica x) 78 (0, 0))) := Lib.hid (by rw [← hw3]; exact HAx.out.below (G.bdrewN (Below.refl _ _) _))
              have hlen : wo.heap.size ≤ W3.heap.size := HB3.out.size
              have hrl3 : rb < W3.heap.size := Nat.lt_of_lt_of_le hrl hlen
              clear hw3 c2 e0 lx hrl2 hrlc HXB HW2
              have st1 := slice_to g N c k (by omega)
              obtain ⟨ad, st2, had⟩ := slice_from g N c k (by omega) hNc
              have HAD := Lib.hid had
              obtain ⟨W4, hW4⟩ : ∃ W4, W4 = W3.alloc (.cells #[] 78) := ⟨_, rfl⟩
              have hb4 : Below W3.heap.size W3 W4 := by rw [hW4]; exact bel_allocT _ _
              have ho4 : W4.ownsRow W3.heap.size 78 3 (.slice (some ⟨W3.heap.size, 0, none⟩) 0 0) 0 [] := by
                rw [hW4]; exact ⟨rfl, .inr ⟨W3.heap.size, 0, #[], rfl, Nat.le_refl _, G.heap_new _ _, Nat.le_refl _, by decide, rfl, rfl⟩⟩
              have HB4 := Lib.hid hb4
              have HO4 := Lib.hid ho4
              have HN1 : Hid (∀ j u, ((sa.waits.take k).flatMap ic)[j]? = some u → W4.cell? ((⟨g, 0, none⟩ : Addr).add j) = some u) := Lib.hid (fun j u h => by
                rw [G.add_plain, Nat.zero_add]
                exact G.cell_below (G.bthen HB3.out HB4.out) (HRow.out j u (ic_take _ _ _ _ h)))
              have HL1 : Hid (((sa.waits.take k).flatMap ic).length = k * 3) := Lib.hid (by rw [ics_len, List.length_take]; have := HKK.out; omega)
              have HN2 : Hid (∀ W, Below wo.heap.size wo W → ∀ j u, ((sa.waits.drop (k + 1)).flatMap ic)[j]? = some u → W.cell? (ad.add j) = some u) := Lib.hid (fun W hW j u h => by
                have hlt : k + 1 < N := by
                  rcases Nat.lt_or_ge (k + 1) N with h1 | h1
                  · exact h1
                  · rw [List.drop_eq_nil_of_le (by have := HNe.out; omega)] at h; simp at h
                rw [HAD.out hlt, G.add_plain]
                exact G.cell_below hW (HRow.out _ u (ic_drop _ _ _ _ (by have := HKK.out; omega) h)))
              have HL2 : Hid (((sa.waits.drop (k + 1)).flatMap ic).length = (N - (k + 1)) * 3) := Lib.hid (by rw [ics_len, List.length_drop, ← HNe.out])
              have h4s : W3.heap.size ≤ W4.heap.size := hb4.size
              have HW4 := Lib.hid hW4
              clear hb4 ho4 hW4 had
              go_upto_region 15 with (fail)
              rw [← HW4.out]
              have d64 := HC6.out W4 (G.bthen HB3.out HB4.out)
              have hrl4 : rb < W4.heap.size := Nat.lt_of_lt_of_le hrl3 h4s
              go_upto_region 16 with (at_builtin; refine app_row rfl (.tmp 67) (.tmp 73) 47 78 rfl W3.heap.size 3 32 _ Try.underlying47 info78 rfl (by decide) (.slice (some ⟨W3.heap.size, 0, none⟩) 0 0) 0 [] rfl HO4.out ⟨g, 0, none⟩ k c ((sa.waits.take k).flatMap ic) rfl HL1.out HN1.out (ic_all _) (by unfold maxLen; omega) (by omega) h4s ?_; intro v5 w5 hown5 hg5 hz5)
              have hbw5 := G.below_grown HB4.out h4s HO4.out hg5
              rw [Nat.zero_add, List.nil_append] at hown5
              obtain ⟨A5, c5, rfl⟩ := owns_shape hown5
              have HO5 := Lib.hid hown5
              have HB5 := Lib.hid hbw5
              have h5s : W3.heap.size ≤ w5.heap.size := hbw5.size
              have HB5' := Lib.hid (G.bthen HB3.out hbw5)
              have d6 := HC6.out w5 HB5'.out
              have hrl5 : rb < w5.heap.size := Nat.lt_of_lt_of_le hrl HB5'.out.size
              clear hown5 hg5 hz5 hbw5 h4s
              go_upto_region 17 with (at_builtin; refine app_row rfl (.tmp 76) (.tmp 83) 47 78 rfl W3.heap.size 3 32 _ Try.underlying47 info78 rfl (by decide) (.slice A5 k c5) k ((sa.waits.take k).flatMap ic) rfl HO5.out ad (N - (k + 1)) (c - (k + 1)) ((sa.waits.drop (k + 1)).flatMap ic) rfl HL2.out (HN2.out w5 HB5'.out) (ic_all _) (by unfold maxLen; omega) (by omega) h5s ?_; intro v6 w6 hown6 hg6 hz6; have hbw6 := G.below_grown HB5.out h5s HO5.out hg6; obtain ⟨A6, c6, rfl⟩ := owns_shape hown6; have HO6 := Lib.hid hown6; have HB6 := Lib.hid hbw6; have HB6' := Lib.hid (G.bthen HB3.out hbw6); have d6' := HC6.out w6 HB6'.out; have f6' := (HRun.out.inv.below HB6'.out).free 6; have hrl6 : rb < w6.heap.size := Nat.lt_of_lt_of_le hrl HB6'.out.size; clear hown6 hg6 hz6 hbw6)
              obtain ⟨l', hl'⟩ : ∃ l', l' = sa.waits.take k ++ sa.waits.drop (k + 1) := ⟨_, rfl⟩
              have hlen' : l'.length + 1 = sa.waits.length := by rw [hl', List.length_append, List.length_take, List.length_drop]; have := HKK.out; omega
              have hmem : ∀ z ∈ l', z ∈ sa.waits := fun z hz => by
                rw [hl'] at hz
                rcases List.mem_append.1 hz with h1 | h1
                · exact List.mem_of_mem_take h1
                · exact List.mem_of_mem_drop h1
              obtain ⟨sm1, sm2⟩ := radd_small (r := x.ref) HSM.out l' hlen' hmem
              have SM1 := Lib.hid sm1
              have SM2 := Lib.hid sm2
              have hst : RStep B rb v1 W3 { sa with waits := l' } (w6.setCell ⟨rb, 6, none⟩ (.slice A6 (k + (N - (k + 1))) c6)) := by
                refine rstep_new (n := k + (N - (k + 1))) (HRun.out.inv.below HB3.out) l' HB6.out ?_ (by have := HNe.out; have := HKK.out; omega)
                rw [hl', List.flatMap_append]
                exact HO6.out
              obtain ⟨v2, run2, at2⟩ := (HRun.out.below HB3.out).step hst
              have ax := at2 _ _ HA3.out
              generalize hW7 : w6.setCell ⟨rb, 6, none⟩ (.slice A6 (k + (N - (k + 1))) c6) = W7 at *
              have q1 : W7.cell? ⟨xb, 1, none⟩ = some (.int .i64 x.ref.kind) := by simp [World.cell?, ax.is, ica]
              have q2 : W7.cell? ⟨xb, 2, none⟩ = some (.string x.ref.name) := by simp [World.cell?, ax.is, ica]
              have hrl7 := run2.inv.lt
              have hxl7 := ax.lt
              have hni : ∀ i, ({ sa with waits := l' } : RS).n i ≤ 1000000 := by
                have h0 := HSM.out
                refine RSmall.n ⟨?_, ?_, h0.l3, h0.l4, fun z hz => h0.names z (hmem z hz)⟩
                · show sa.line.length + l'.length ≤ _; have := h0.l1; omega
                · show sa.marked.length + l'.length ≤ _; have := h0.l2; omega
              have C30 := Lib.hid (radd_any B rb { sa with waits := l' } v2 x.ref W7 run2.inv hni)
              have RUN2 := Lib.hid run2
              have HL' := Lib.hid hl'
              have HLEN := Lib.hid hlen'
              unfold rv at C30
              clear hlen' hmem sm1 sm2 hst at2 ax run2 hni hl' d6' f6' hrl6 d6 hrl5 d64 hrl4 st1 st2
              have HGK : l'.length < gk := by have h1 := HLEN.out; have h2 := HG.out; omega
              have HSTEP : Hid (∀ s', RT (raddS { sa with waits := l' } x.ref) s' → RT s0 s') := Lib.hid (fun s' p => HRT.out s' (.step sa k HKK.out (HMIN.out HKK.out) (by rw [← HX.out]; have := HD.out; omega) s' (by rw [← HX.out, ← HL'.out]; exact p)))
              go_wp2_with (go_at_call 30; refine C30.out.mono ?_; rintro e w9 ⟨rfl, hs⟩)
              go_roundg l'.length
              case measure => exact HGK
              case rel =>
                obtain ⟨v9, r9, _⟩ := RUN2.out.step hs
                exact Lib.hid ⟨_, v9, r9, by rw [SM2.out], SM1.out, HSTEP.out⟩
end Go.Proofs.Ythmknlflgajnpaa
