/- The walk of does, on a queue and the reference's queue that are alike. -/
import Derived.Test.YthmknlflgajnpaaQpP
namespace Go.Proofs.Ythmknlflgajnpaa
set_option linter.unusedVariables false
set_option linter.unusedSimpArgs false
open Go.RowKit
/-- both in memory, apart -/
structure T2 (B qb rb : Nat) (s : St) (d : QD) (r : RS) (v : RV) (w0 w : World) : Prop where
  q : Inv B qb s d w
  r : RInv B rb r v w
  ap : ∀ j, Foot qb d j → ¬ RFoot rb v j
  bel : Below B w0 w
/-- a block of neither -/
structure K2 (qb rb : Nat) (d : QD) (v : RV) (w : World) (A : Nat) (o : Obj) : Prop where
  lt : A < w.heap.size
  oq : ¬ Foot qb d A
  orf : ¬ RFoot rb v A
  is : w.heap[A]? = some o
theorem T2.below {B qb rb : Nat} {s : St} {d : QD} {r : RS} {v : RV} {w0 w w1 : World} (h : T2 B qb rb s d r v w0 w) (hb : Below w.heap.size w w1) : T2 B qb rb s d r v w0 w1 :=
  ⟨h.q.below hb, h.r.below hb, h.ap, h.bel.trans ⟨hb.os, hb.tape, hb.output, hb.size, fun j hj => hb.block j (Nat.lt_of_lt_of_le hj (Nat.le_trans h.q.hB (Nat.le_of_lt h.q.lt)))⟩⟩
theorem K2.below {qb rb : Nat} {d : QD} {v : RV} {w w1 : World} {A : Nat} {o : Obj} (h : K2 qb rb d v w A o) (hb : Below w.heap.size w w1) : K2 qb rb d v w1 A o :=
  ⟨Nat.lt_of_lt_of_le h.lt hb.size, h.oq, h.orf, (hb.block A h.lt).trans h.is⟩
theorem K2.new {B qb rb : Nat} {s : St} {d : QD} {r : RS} {v : RV} {w0 w : World} (h : T2 B qb rb s d r v w0 w) (o : Obj) : K2 qb rb d v (w.alloc o) w.heap.size o :=
  ⟨by simp, fun hf => Nat.lt_irrefl _ (h.q.foot_lt hf), fun hf => Nat.lt_irrefl _ (h.r.foot_lt hf), G.heap_new _ _⟩
theorem T2.stepQ {B qb rb : Nat} {s s' : St} {d : QD} {r : RS} {v : RV} {w0 w w1 : World} (h : T2 B qb rb s d r v w0 w) (k : Step B qb d w s' w1) :
    ∃ d', T2 B qb rb s' d' r v w0 w1 ∧ ∀ A o, K2 qb rb d v w A o → K2 qb rb d' v w1 A o := by
  obtain ⟨d', h1, h2, h3⟩ := k
  refine ⟨d', ⟨h1, h.r.keep fun j hj => h3.block j (h.r.foot_lt hj) (fun hq => h.ap j hq hj), fun j hj hr => ?_, Fr.below h.bel (Nat.le_trans h.q.hB (Nat.le_of_lt h.q.lt)) h3 (fun _ hj => h.q.foot_B hj)⟩, fun A o hA => ⟨Nat.lt_of_lt_of_le hA.lt h3.size, fun hf => ?_, hA.orf, (h3.block A hA.lt hA.oq).trans hA.is⟩⟩
  · rcases h2 j hj with h4 | h4
    · exact h.ap j h4 hr
    · have := h.r.foot_lt hr; omega
  · rcases h2 A hf with h4 | h4
    · exact hA.oq h4
    · have := hA.lt; omega
theorem T2.stepR {B qb rb : Nat} {s : St} {d : QD} {r r' : RS} {v : RV} {w0 w w1 : World} (h : T2 B qb rb s d r v w0 w) (k : RStep B rb v w r' w1) :
    ∃ v', T2 B qb rb s d r' v' w0 w1 ∧ ∀ A o, K2 qb rb d v w A o → K2 qb rb d v' w1 A o := by
  obtain ⟨v', h1, h2, h3⟩ := k
  refine ⟨v', ⟨h.q.keep fun j hj => h3.block j (h.q.foot_lt hj) (fun hr => h.ap j hj hr), h1, fun j hj hr => ?_, Fr.below h.bel (Nat.le_trans h.q.hB (Nat.le_of_lt h.q.lt)) h3 (fun _ hj => h.r.foot_B hj)⟩, fun A o hA => ⟨Nat.lt_of_lt_of_le hA.lt h3.size, hA.oq, fun hf => ?_, (h3.block A hA.lt hA.orf).trans hA.is⟩⟩
  · rcases h2 j hr with h4 | h4
    · exact h.ap j hj h4
    · have := h.q.foot_lt hj; omega
  · rcases h2 A hf with h4 | h4
    · exact hA.orf h4
    · have := hA.lt; omega
theorem act_cells {V : World} {A : Nat} {x : Act7} (h : V.heap[A]? = some (actBox x)) : V.cell? ⟨A, 0, none⟩ = some (.int .i64 x.kind) ∧ V.cell? ⟨A, 1, none⟩ = some (.int .i64 x.ref.kind) ∧ V.cell? ⟨A, 2, none⟩ = some (.string x.ref.name) ∧ V.cell? ⟨A, 3, none⟩ = some (.int .i64 x.n) := by
  refine ⟨?_, ?_, ?_, ?_⟩ <;> simp [World.cell?, h]
theorem ref_cells {V : World} {A : Nat} {g : Ref} (h : V.heap[A]? = some (.cells #[.int .i64 g.kind, .string g.name] 30 (0, 0))) : V.cell? ⟨A, 0, none⟩ = some (.int .i64 g.kind) ∧ V.cell? ⟨A, 1, none⟩ = some (.string g.name) := by
  refine ⟨?_, ?_⟩ <;> simp [World.cell?, h]
/-- base, bound and clock are kept -/
structure Bs (s s' : St) : Prop where
  base : s'.base = s.base
  most : s'.most = s.most
  now : s'.now = s.now
theorem Bs.trans {a b c : St} (h : Bs a b) (k : Bs b c) : Bs a c := ⟨k.base.trans h.base, k.most.trans h.most, k.now.trans h.now⟩
theorem add_bs (s : St) (x : Ref) : Bs s (addS s x) := by
  unfold addS
  split
  · exact ⟨rfl, rfl, rfl⟩
  · split <;> exact ⟨rfl, rfl, rfl⟩
theorem after_bs (s : St) (x : Ref) (m : Int) : Bs s (afterS s x m) := by
  unfold afterS
  split
  · exact add_bs s x
  · split <;> exact ⟨rfl, rfl, rfl⟩
theorem again_bs (s : St) (x : Ref) : Bs s (againQ s x) := by
  unfold againQ
  exact Bs.trans (b := againF s x) ⟨rfl, rfl, rfl⟩ (after_bs _ _ _)
theorem done_bs (s : St) (x : Ref) : Bs s (doneS s x) := by
  unfold doneS
  split
  · exact ⟨rfl, rfl, rfl⟩
  · split <;> exact ⟨rfl, rfl, rfl⟩
theorem get_bs (s : St) : Bs s (getS s) := by
  unfold getS
  split <;> exact ⟨rfl, rfl, rfl⟩
theorem pop_bs (s : St) (q : List Item) : Bs s (popS s q) := ⟨rfl, rfl, rfl⟩
theorem drop_bs (s : St) (x : Ref) : Bs s (dropW s x) := ⟨rfl, rfl, rfl⟩
theorem pt_bs {s s' : St} (p : PT s s') : Bs s s' := by
  induction p with
  | stop _ _ => exact ⟨rfl, rfl, rfl⟩
  | skip _ _ _ _ _ _ _ _ _ _ _ _ ih => exact Bs.trans (pop_bs _ _) ih
  | take _ _ _ _ _ _ _ _ _ _ _ _ ih => exact Bs.trans (Bs.trans ((pop_bs _ _).trans (drop_bs _ _)) (add_bs _ _)) ih
/-- base and bound are kept, the clock goes on by one step at most -/
structure Le (s s' : St) : Prop where
  base : s'.base = s.base
  most : s'.most = s.most
  lo : s.now ≤ s'.now
  hi : s'.now ≤ s.now + 1048576
theorem Bs.le {s s' : St} (h : Bs s s') : Le s s' := ⟨h.base, h.most, by rw [h.now]; omega, by rw [h.now]; omega⟩
theorem tick_le {s s' : St} {m : Int} (p : PT { s with now := s.now + clamp0 m } s') : Le s s' := by
  obtain ⟨h1, h2, h3⟩ := pt_bs p
  have hc : 0 ≤ clamp0 m ∧ clamp0 m ≤ 1048576 := by
    unfold clamp0 clampS
    split
    · omega
    · split <;> omega
  refine ⟨h1, h2, ?_, ?_⟩
  · rw [h3]; show s.now ≤ s.now + clamp0 m; omega
  · rw [h3]; show s.now + clamp0 m ≤ _; omega
/-- sizes that the walks ask for -/
structure Lim (s : St) (r : RS) : Prop where
  q1 : s.line.length ≤ 1000000
  q2 : s.pile.length ≤ 100000
  q3 : s.line.length ≤ 900000
  q4 : s.pile.length ≤ 90000
  q5 : s.line.length + s.pile.length ≤ 900000
  now : 0 ≤ s.now ∧ s.now ≤ 1099511627776
  bm : 1 ≤ s.base ∧ s.base ≤ s.most ∧ s.most ≤ 1048576
  f : ∀ x, 0 ≤ num (s.mp 3) x ∧ num (s.mp 3) x ≤ 1000000
  r1 : ∀ i, r.n i ≤ 1000000
  r2 : ∀ i, r.n i ≤ 900000
  rnow : 0 ≤ r.now ∧ r.now ≤ 1099511627776
  rbm : 0 ≤ r.base ∧ r.base ≤ 1048576
  rf : ∀ x, 0 ≤ rfail r.fails x ∧ rfail r.fails x ≤ 1000000
  rs : RSmall r
theorem Sim.lim {s : St} {r : RS} {k j : Nat} (h : Sim s r k j) (hk : k ≤ 1000) (hj : j ≤ 1000) (hnow : 0 ≤ s.now ∧ s.now ≤ 1099511627776) (hbm : 1 ≤ s.base ∧ s.base ≤ s.most ∧ s.most ≤ 1048576) : Lim s r := by
  have c1 := h.c1
  have c2 := h.c2
  have c3 := h.c3
  have fl := h.fl
  have hl : r.line.length = s.line.length := by rw [h.line]
  have rr : ∀ i, r.n i ≤ 900000 := fun i => by
    match i with
    | 0 => show r.line.length ≤ _; omega
    | 1 => show r.marked.length ≤ _; omega
    | 2 => show r.busy.length ≤ _; omega
    | 3 => show r.waits.length ≤ _; omega
    | 4 => show r.fails.length ≤ _; omega
  refine ⟨by omega, by omega, by omega, by omega, by omega, hnow, hbm, fun x => ?_, fun i => Nat.le_trans (rr i) (by decide), rr, by rw [h.now]; exact hnow, by rw [h.base]; omega, fun x => ?_, ⟨by omega, by omega, by omega, by omega, fun x hx => Nat.le_trans (h.wname x hx) (by decide)⟩⟩
  · have := h.fb x; omega
  · rw [← h.fail]; have := h.fb x; omega
theorem rget_is {x : Value} {b : Bool} (B rb : Nat) (s : RS) (v : RV) (w : World) (hr : rgetR s = (x, b)) (h : RInv B rb s v w) (hl : ∀ i, s.n i ≤ 1000000) :
    Calls Try.prog 34 #[.pointer (some ⟨rb, 0, none⟩)] w fun e w' => e = .returned (.tuple #[x, .bool b]) ∧ RStep B rb v w (rgetS s) w' := by
  have := rget_any B rb s v w h hl
  rw [hr] at this
  exact this
theorem get_form (s : St) : ∃ (g : Ref) (b : Bool), getR s = (.agg #[.int .i64 g.kind, .string g.name], b) := by
  unfold getR
  split
  · exact ⟨⟨0, ⟨#[]⟩⟩, false, rfl⟩
  · exact ⟨_, true, rfl⟩
def Does (B qb rb : Nat) (s : St) (r : RS) (d : QD) (v : RV) (k j : Nat) (w0 w : World) (e : Ending) (w' : World) : Prop :=
  e = .returned (.bool true) ∧ ∃ s' d' r' v', T2 B qb rb s' d' r' v' w0 w' ∧ Sim s' r' (k + 1) (j + 1) ∧ Le s s' ∧ ∀ A o, K2 qb rb d v w A o → K2 qb rb d' v' w' A o
set_option maxRecDepth 100000 in
set_option maxHeartbeats 8000000 in
theorem does_any (B qb rb : Nat) (s : St) (d : QD) (r : RS) (v : RV) (k j : Nat) (w0 w : World) (x : Act7) (h : T2 B qb rb s d r v w0 w) (hs : Sim s r k j) (hl : Lim s r) (hx : x.ref.name.size ≤ 200) :
    Calls Try.prog 22 #[.pointer (some ⟨qb, 0, none⟩), .pointer (some ⟨rb, 0, none⟩), .agg #[.int .i64 x.kind, .int .i64 x.ref.kind, .string x.ref.name, .int .i64 x.n]] w fun e w' => Does B qb rb s r d v k j w0 w e w' := by
  obtain ⟨W, hW⟩ : ∃ W, W = w.alloc (actBox x) := ⟨_, rfl⟩
  have hbW : Below w.heap.size w W := by rw [hW]; exact bel_alloc _ _
  have HK : Hid (K2 qb rb d v W w.heap.size (actBox x)) := Lib.hid (by rw [hW]; exact K2.new h _)
  have HT := Lib.hid (h.below hbW)
  have HKeep : Hid (∀ A o, K2 qb rb d v w A o → K2 qb rb d v W A o) := Lib.hid (fun A o hA => hA.below hbW)
  obtain ⟨b0, b1, b2, b3⟩ := act_cells HK.out.is
  obtain ⟨g, b, hg⟩ := get_form s
  have HG := Lib.hid hg
  have HRG := Lib.hid (hs.get.1.symm.trans hg)
  have HW := Lib.hid hW
  have HS := Lib.hid hs
  have HL := Lib.hid hl
  have hx' := Lib.hid hx
  rw [hW] at b0 b1 b2 b3
  clear hx
  have hx := hx'
  clear hx' hW hbW h hs hl hg
  unfold Does
  by_cases k1 : x.kind = 1
  · have k1' : (x.kind == 1) = true := by simpa using k1
    clear k1
    go_enter Try.func22, Try.ntmps22
    go_wp2_with (fail)
    rw [← HW.out]
    refine (add_any _ qb _ _ x.ref _ HT.out.q HL.out.q1).mono ?_
    rintro e w1 ⟨rfl, hs⟩
    obtain ⟨d1, t1, k1⟩ := HT.out.stepQ hs
    have HT1 := Lib.hid t1
    have HK1 := Lib.hid k1
    obtain ⟨b0, b1, b2, b3⟩ := act_cells (k1 _ _ HK.out).is
    clear hs t1 k1
    go_wp2_with (fail)
    refine (radd_any _ rb _ _ x.ref _ HT1.out.r HL.out.r1).mono ?_
    rintro e w2 ⟨rfl, hs⟩
    obtain ⟨v2, t2, k2⟩ := HT1.out.stepR hs
    have HT2 := Lib.hid t2
    have HK2 := Lib.hid k2
    clear hs t2 k2 b0 b1 b2 b3
    go_wp2
    go_ret
    exact ⟨rfl, _, d1, _, v2, HT2.out, (HS.out.add x.ref).mono (Nat.le_refl _) (by omega), (add_bs s x.ref).le, fun A o h => HK2.out A o (HK1.out A o (HKeep.out A o h))⟩
  · have k1' : (x.kind == 1) = false := by simpa using k1
    clear k1
    by_cases k2 : x.kind = 2
    · have k2' : (x.kind == 2) = true := by simpa using k2
      clear k2
      go_enter Try.func22, Try.ntmps22
      go_wp2_with (fail)
      rw [← HW.out]
      refine (after_any _ qb _ _ x.ref x.n _ HT.out.q HL.out.q1 HL.out.q2 HL.out.now).mono ?_
      rintro e w1 ⟨rfl, hs⟩
      obtain ⟨d1, t1, k1⟩ := HT.out.stepQ hs
      have HT1 := Lib.hid t1
      have HK1 := Lib.hid k1
      obtain ⟨b0, b1, b2, b3⟩ := act_cells (k1 _ _ HK.out).is
      clear hs t1 k1
      go_wp2_with (fail)
      refine (rafter_any _ rb _ _ x.ref x.n _ HT1.out.r HL.out.r1 HL.out.rnow).mono ?_
      rintro e w2 ⟨rfl, hs⟩
      obtain ⟨v2, t2, k2⟩ := HT1.out.stepR hs
      have HT2 := Lib.hid t2
      have HK2 := Lib.hid k2
      clear hs t2 k2 b0 b1 b2 b3
      go_wp2
      go_ret
      exact ⟨rfl, _, d1, _, v2, HT2.out, (HS.out.after x.ref hx.out x.n).mono (Nat.le_refl _) (by omega), (after_bs s x.ref x.n).le, fun A o h => HK2.out A o (HK1.out A o (HKeep.out A o h))⟩
    · have k2' : (x.kind == 2) = false := by simpa using k2
      clear k2
      by_cases k3 : x.kind = 3
      · have k3' : (x.kind == 3) = true := by simpa using k3
        clear k3
        go_enter Try.func22, Try.ntmps22
        go_wp2_with (fail)
        rw [← HW.out]
        refine (again_any _ qb _ _ x.ref _ HT.out.q HL.out.q3 HL.out.q4 HL.out.now HL.out.bm (HL.out.f x.ref)).mono ?_
        rintro e w1 ⟨rfl, hs⟩
        obtain ⟨d1, t1, k1⟩ := HT.out.stepQ hs
        have HT1 := Lib.hid t1
        have HK1 := Lib.hid k1
        obtain ⟨b0, b1, b2, b3⟩ := act_cells (k1 _ _ HK.out).is
        clear hs t1 k1
        go_wp2_with (fail)
        refine (ragain_any _ rb _ _ x.ref _ HT1.out.r HL.out.r2 HL.out.rnow HL.out.rbm (HL.out.rf x.ref)).mono ?_
        rintro e w2 ⟨rfl, hs⟩
        obtain ⟨v2, t2, k2⟩ := HT1.out.stepR hs
        have HT2 := Lib.hid t2
        have HK2 := Lib.hid k2
        clear hs t2 k2 b0 b1 b2 b3
        go_wp2
        go_ret
        exact ⟨rfl, _, d1, _, v2, HT2.out, HS.out.again x.ref hx.out, (again_bs s x.ref).le, fun A o h => HK2.out A o (HK1.out A o (HKeep.out A o h))⟩
      · have k3' : (x.kind == 3) = false := by simpa using k3
        clear k3
        by_cases k4 : x.kind = 4
        · have k4' : (x.kind == 4) = true := by simpa using k4
          clear k4
          go_enter Try.func22, Try.ntmps22
          go_wp2_with (fail)
          rw [← HW.out]
          refine (forget_any _ qb _ _ x.ref _ HT.out.q).mono ?_
          rintro e w1 ⟨rfl, hs⟩
          obtain ⟨d1, t1, k1⟩ := HT.out.stepQ hs
          have HT1 := Lib.hid t1
          have HK1 := Lib.hid k1
          obtain ⟨b0, b1, b2, b3⟩ := act_cells (k1 _ _ HK.out).is
          clear hs t1 k1
          go_wp2_with (fail)
          refine (rforget_any _ rb _ _ x.ref _ HT1.out.r HL.out.r1).mono ?_
          rintro e w2 ⟨rfl, hs⟩
          obtain ⟨v2, t2, k2⟩ := HT1.out.stepR hs
          have HT2 := Lib.hid t2
          have HK2 := Lib.hid k2
          clear hs t2 k2 b0 b1 b2 b3
          go_wp2
          go_ret
          exact ⟨rfl, _, d1, _, v2, HT2.out, (HS.out.forget x.ref).mono (by omega) (by omega), ((⟨rfl, rfl, rfl⟩ : Bs s (forgetS s x.ref))).le, fun A o h => HK2.out A o (HK1.out A o (HKeep.out A o h))⟩
        · have k4' : (x.kind == 4) = false := by simpa using k4
          clear k4
          by_cases k5 : x.kind = 5
          · have k5' : (x.kind == 5) = true := by simpa using k5
            clear k5
            go_enter Try.func22, Try.ntmps22
            go_wp2_with (fail)
            rw [← HW.out]
            refine (get_is _ qb _ _ _ HG.out HT.out.q HL.out.q1).mono ?_
            rintro e w1 ⟨rfl, hs⟩
            obtain ⟨d1, t1, k1⟩ := HT.out.stepQ hs
            have hbx := bel_allocT w1 (.cells #[.int .i64 g.kind, .string g.name] 30)
            have HT1 := Lib.hid (t1.below hbx)
            have HK1 := Lib.hid k1
            have HG1 := Lib.hid (K2.new t1 (.cells #[.int .i64 g.kind, .string g.name] 30))
            have HB1 := Lib.hid hbx
            obtain ⟨b0, b1, b2, b3⟩ := act_cells ((k1 _ _ HK.out).below hbx).is
            clear hs t1 k1 hbx
            go_wp2_with (fail)
            refine (rget_is _ rb _ _ _ HRG.out HT1.out.r HL.out.r1).mono ?_
            rintro e w2 ⟨rfl, hs⟩
            obtain ⟨v2, t2, k2⟩ := HT1.out.stepR hs
            have hbx := bel_allocT w2 (.cells #[.int .i64 g.kind, .string g.name] 30)
            have HT2 := Lib.hid (t2.below hbx)
            have HK2 := Lib.hid k2
            have HB2 := Lib.hid hbx
            have c7 := ((k2 _ _ HG1.out).below hbx).is
            have c9 := G.heap_new w2 (.cells #[.int .i64 g.kind, .string g.name] 30)
            obtain ⟨e0, e1⟩ := ref_cells c7
            obtain ⟨e2, e3⟩ := ref_cells c9
            have heq := run_eq_ref g g
            unfold rv at heq
            rw [decide_eq_true rfl] at heq
            clear hs t2 k2 b0 b1 b2 b3 hbx c7 c9
            cases b
            · go_wp2
              go_ret
              exact ⟨rfl, _, d1, _, v2, HT2.out, HS.out.get.2.mono (by omega) (by omega), (get_bs s).le, fun A o h => (HK2.out A o ((HK1.out A o (HKeep.out A o h)).below HB1.out)).below HB2.out⟩
            · go_wp2
              go_ret
              exact ⟨rfl, _, d1, _, v2, HT2.out, HS.out.get.2.mono (by omega) (by omega), (get_bs s).le, fun A o h => (HK2.out A o ((HK1.out A o (HKeep.out A o h)).below HB1.out)).below HB2.out⟩
          · have k5' : (x.kind == 5) = false := by simpa using k5
            clear k5
            by_cases k6 : x.kind = 6
            · have k6' : (x.kind == 6) = true := by simpa using k6
              clear k6
              go_enter Try.func22, Try.ntmps22
              go_wp2_with (fail)
              rw [← HW.out]
              refine (done_any _ qb _ _ x.ref _ HT.out.q HL.out.q1).mono ?_
              rintro e w1 ⟨rfl, hs⟩
              obtain ⟨d1, t1, k1⟩ := HT.out.stepQ hs
              have HT1 := Lib.hid t1
              have HK1 := Lib.hid k1
              obtain ⟨b0, b1, b2, b3⟩ := act_cells (k1 _ _ HK.out).is
              clear hs t1 k1
              go_wp2_with (fail)
              refine (rdone_any _ rb _ _ x.ref _ HT1.out.r HL.out.r1).mono ?_
              rintro e w2 ⟨rfl, hs⟩
              obtain ⟨v2, t2, k2⟩ := HT1.out.stepR hs
              have HT2 := Lib.hid t2
              have HK2 := Lib.hid k2
              clear hs t2 k2 b0 b1 b2 b3
              go_wp2
              go_ret
              exact ⟨rfl, _, d1, _, v2, HT2.out, (HS.out.done x.ref).mono (by omega) (by omega), (done_bs s x.ref).le, fun A o h => HK2.out A o (HK1.out A o (HKeep.out A o h))⟩
            · have k6' : (x.kind == 6) = false := by simpa using k6
              clear k6
              by_cases k7 : x.kind = 7
              · have k7' : (x.kind == 7) = true := by simpa using k7
                clear k7
                go_enter Try.func22, Try.ntmps22
                go_wp2_with (fail)
                rw [← HW.out]
                refine (tick_any _ qb _ _ x.n _ HT.out.q HL.out.q5 HL.out.now).mono ?_
                rintro e w1 ⟨rfl, s', hp, hs⟩
                obtain ⟨d1, t1, k1⟩ := HT.out.stepQ hs
                have HT1 := Lib.hid t1
                have HK1 := Lib.hid k1
                have HP := Lib.hid hp
                obtain ⟨b0, b1, b2, b3⟩ := act_cells (k1 _ _ HK.out).is
                clear hs t1 k1 hp
                go_wp2_with (fail)
                refine (rtick_any _ rb _ _ x.n _ HT1.out.r HL.out.rs HL.out.rnow).mono ?_
                rintro e w2 ⟨rfl, r', hp, hs⟩
                obtain ⟨v2, t2, k2⟩ := HT1.out.stepR hs
                have HT2 := Lib.hid t2
                have HK2 := Lib.hid k2
                have HP2 := Lib.hid hp
                clear hs t2 k2 b0 b1 b2 b3 hp
                go_wp2
                go_ret
                exact ⟨rfl, _, d1, _, v2, HT2.out, (Sim.tick HP.out (HS.out.clock (clamp0 x.n)) HP2.out).mono (by omega) (by omega), tick_le HP.out, fun A o h => HK2.out A o (HK1.out A o (HKeep.out A o h))⟩
              · have k7' : (x.kind == 7) = false := by simpa using k7
                clear k7
                go_enter Try.func22, Try.ntmps22
                go_wp2_with (fail)
                rw [← HW.out]
                go_ret
                exact ⟨rfl, s, d, r, v, HT.out, HS.out.mono (by omega) (by omega), Bs.le ⟨rfl, rfl, rfl⟩, HKeep.out⟩
end Go.Proofs.Ythmknlflgajnpaa
