/- The walk of QueuePlays. -/
import Derived.Test.YthmknlflgajnpaaQp1
import Derived.Test.YthmknlflgajnpaaGr1
namespace Go.Proofs.Ythmknlflgajnpaa
set_option linter.unusedVariables false
set_option linter.unusedSimpArgs false
open Go.RowKit
theorem size32 : (Try.prog.info? 32).map (·.size) = some 4 := by kernel_rfl
theorem same_true (v1 v2 : Value) (l1 l2 : List Ref) (w : World) (h1 : Row w v1 l1) (h2 : Row w v2 l2) (he : l1 = l2) (hl1 : l1.length ≤ 1000000) :
    Calls Try.prog 23 #[v1, v2] w fun e w' => e = .returned (.bool true) ∧ ∃ q, w' = w.drewN q := by
  have := same_any v1 v2 l1 l2 w h1 h2 hl1 (he ▸ hl1)
  rw [decide_eq_true he] at this
  exact this
theorem len_same (B qb : Nat) (s : St) (d : QD) (w : World) (h : Inv B qb s d w) : Calls Try.prog 18 #[.pointer (some ⟨qb, 0, none⟩)] w fun e w' => e = .returned (.int .i64 s.line.length) ∧ w = w' :=
  (len_any B qb s d w h).mono fun _ _ ⟨h1, h2⟩ => ⟨h1, h2.symm⟩
theorem waiting_same (B qb : Nat) (s : St) (d : QD) (w : World) (h : Inv B qb s d w) : Calls Try.prog 17 #[.pointer (some ⟨qb, 0, none⟩)] w fun e w' => e = .returned (.int .i64 (s.mp 2).length) ∧ w = w' :=
  (waiting_any B qb s d w h).mono fun _ _ ⟨h1, h2⟩ => ⟨h1, h2.symm⟩
theorem now_same (B qb : Nat) (s : St) (d : QD) (w : World) (h : Inv B qb s d w) : Calls Try.prog 24 #[.pointer (some ⟨qb, 0, none⟩)] w fun e w' => e = .returned (.int .i64 s.now) ∧ w = w' :=
  (now_any B qb s d w h).mono fun _ _ ⟨h1, h2⟩ => ⟨h1, h2.symm⟩
theorem box_range {V : World} {A : Nat} {x : Act7} (h : V.heap[A]? = some (actBox x)) : V.rangeAt A 1 (rc x.ref) := fun j u hj => by
  obtain ⟨h0, h1, h2, h3⟩ := act_cells h
  match j with
  | 0 => simp [rc] at hj; rw [← hj]; exact h1
  | 1 => simp [rc] at hj; rw [← hj]; exact h2
  | j + 2 => simp [rc] at hj
theorem RInv.base_le {B B' rb : Nat} {s : RS} {v : RV} {w : World} (h : RInv B' rb s v w) (hb : B ≤ B') : RInv B rb s v w :=
  ⟨h.cells, Nat.le_trans hb h.hB, fun i => owns_base_le (h.rows i) hb, h.apart⟩
/-- base, bound and clock behind so many calls -/
structure Cl (base top : Int) (k : Nat) (s : St) : Prop where
  base : s.base = base
  most : s.most = top
  lo : 0 ≤ s.now
  hi : s.now ≤ k * 1048576
theorem le_pl {base top : Int} {k : Nat} {s s' : St} (h : Le s s') (c : Cl base top k s) : Cl base top (k + 1) s' :=
  ⟨h.base.trans c.base, h.most.trans c.most, Int.le_trans c.lo h.lo, by have h1 := h.hi; have h2 := c.hi; push_cast; omega⟩
theorem le_now {s s' : St} (h : Le s s') (c : 0 ≤ s.now ∧ s.now ≤ 1000 * 1048576) : 0 ≤ s'.now ∧ s'.now ≤ 1099511627776 := by
  have h1 := h.lo; have h2 := h.hi; omega
theorem le_bm {s s' : St} (h : Le s s') (c : 1 ≤ s.base ∧ s.base ≤ s.most ∧ s.most ≤ 1048576) : 1 ≤ s'.base ∧ s'.base ≤ s'.most ∧ s'.most ≤ 1048576 := by
  rw [h.base, h.most]; exact c
def PL (B qb rb : Nat) (base top : Int) (k : Nat) (w0 wr : World) : Prop := ∃ s d r v, T2 B qb rb s d r v w0 wr ∧ Sim s r k k ∧ Cl base top k s
theorem pl_start {w1 w2 : World} {qb : Nat} {d : QD} {base top : Int} (hI : Inv w1.heap.size qb (St0 base top) d w2) (hb : Below w1.heap.size w1 w2) :
    PL w1.heap.size qb w2.heap.size base top 0 w1 (w2.alloc (.cells #[.int .i64 base, .int .i64 top, .int .i64 0, .slice none 0 0, .slice none 0 0, .slice none 0 0, .slice none 0 0, .slice none 0 0] 50)) := by
  refine ⟨St0 base top, d, RS0 base top, RV0, ⟨hI.below (bel_allocT _ _), (r0_new base top w2).base_le hb.size, fun j hj hr => ?_, G.bthen hb (bel_allocT _ _)⟩, Sim.start base top, ⟨rfl, rfl, Int.le_refl _, by simp [St0]⟩⟩
  have h1 := hI.foot_lt hj
  rcases hr with h2 | ⟨i, h2⟩
  · omega
  · simp [RV0, Value.ownBlock] at h2
set_option maxRecDepth 100000 in
set_option maxHeartbeats 1000000 in
theorem plays_bad (base top : Int) (v : Value) (w : World) (h : base < 1 ∨ top < base ∨ 1048576 < top) :
    Calls Try.prog 5 #[.int .i64 base, .int .i64 top, v] w fun e w' => e = .returned (.bool true) ∧ Below w.heap.size w w' := by
  have H := Lib.hid h
  by_cases h1 : base < 1
  · have t1 : decide (base < 1) = true := decide_eq_true h1
    clear h h1
    go_enter Try.func5, Try.ntmps5
    go_wp2_with (first | (go_at_call 7; refine (awake_any _).mono ?_; rintro e w1 ⟨rfl, hb1⟩) | (go_at_call 8; refine (begin_bad base top _ H.out).mono ?_; rintro e w2 ⟨p, rfl, hb2⟩))
    go_ret
    exact ⟨rfl, G.bthen hb1 hb2⟩
  · have t1 : decide (base < 1) = false := decide_eq_false h1
    by_cases h2 : top < base
    · have t2 : decide (top < base) = true := decide_eq_true h2
      clear h h1 h2
      go_enter Try.func5, Try.ntmps5
      go_wp2_with (first | (go_at_call 7; refine (awake_any _).mono ?_; rintro e w1 ⟨rfl, hb1⟩) | (go_at_call 8; refine (begin_bad base top _ H.out).mono ?_; rintro e w2 ⟨p, rfl, hb2⟩))
      go_ret
      exact ⟨rfl, G.bthen hb1 hb2⟩
    · have t2 : decide (top < base) = false := decide_eq_false h2
      have t3 : decide (1048576 < top) = true := decide_eq_true (by omega)
      clear h h1 h2
      go_enter Try.func5, Try.ntmps5
      go_wp2_with (first | (go_at_call 7; refine (awake_any _).mono ?_; rintro e w1 ⟨rfl, hb1⟩) | (go_at_call 8; refine (begin_bad base top _ H.out).mono ?_; rintro e w2 ⟨p, rfl, hb2⟩))
      go_ret
      exact ⟨rfl, G.bthen hb1 hb2⟩
set_option maxRecDepth 100000 in
set_option maxHeartbeats 16000000 in
theorem plays_main (base top : Int) (A : Option Addr) (n c : Nat) (l : List Act7) (w : World) (hb : 1 ≤ base ∧ base ≤ top ∧ top ≤ 1048576) (hn : n = l.length) (h : G.HasRow w 4 (.slice A n c) n (l.flatMap ac)) :
    Calls Try.prog 5 #[.int .i64 base, .int .i64 top, .slice A n c] w fun e w' => e = .returned (.bool true) ∧ Below w.heap.size w w' := by
  have H := Lib.hid hb
  have Hn := Lib.hid hn
  have HR := Lib.hid h
  have t1 : decide (base < 1) = false := decide_eq_false (by omega)
  have t2 : decide (top < base) = false := decide_eq_false (by omega)
  have t3 : decide (1048576 < top) = false := decide_eq_false (by omega)
  clear hn h hb
  go_enter Try.func5, Try.ntmps5
  go_upto_block 0 with (first | (go_at_call 7; refine (awake_any _).mono ?_; rintro e w1 ⟨rfl, hb1⟩; have HB1 := Lib.hid hb1; clear hb1) | (go_at_call 8; refine (begin_any base top _ H.out).mono ?_; rintro e w3 ⟨qb, d, w2, rfl, hI, hb2, rfl⟩))
  have HP0 := Lib.hid (pl_start hI hb2)
  obtain ⟨rb, hrb⟩ : ∃ rb, rb = w2.heap.size := ⟨_, rfl⟩
  obtain ⟨B, hB⟩ : ∃ B, B = w1.heap.size := ⟨_, rfl⟩
  rw [← hrb, ← hB] at HP0
  rw [← hrb]
  have HB := Lib.hid hB
  clear hI hb2 hrb hB t1 t2 t3
  go_wp2_with (fail)
  go_loopw [10] (fun i wr => ∃ k : Nat, k ≤ n ∧ k ≤ 100 ∧ i = .int .i64 k ∧ Hid (PL B qb rb base top k w1 wr)) (fun i _ => n - (intOf i).toNat)
  case atStart => exact ⟨0, by omega, by omega, by go_num, HP0⟩
  case round =>
    obtain ⟨k, hk, hk1, rfl, HPL⟩ := hrel
    by_cases hkn : k < n
    · by_cases hk2 : k < 100
      · have hkl : k < l.length := by have := Hn.out; omega
        obtain ⟨s, d, r, v, hT, hSim, hCl⟩ := HPL.out
        have hbw : Below w.heap.size w wr := G.bthen HB1.out (by rw [← HB.out]; exact hT.bel)
        obtain ⟨_, A', c', hv, hlc, _, hcell⟩ := HR.out
        cases hv
        obtain ⟨ad, rfl, e0⟩ := hcell _ _ (act_at l k hkl).1
        have cc : ∀ j u, (l.flatMap ac)[j]? = some u → wr.cell? (ad.add j) = some u := fun j u hj => by
          obtain ⟨ad', ha, hc⟩ := hcell j u hj
          cases ha
          exact G.cell_below hbw hc
        obtain ⟨x, hx⟩ : ∃ x, x = l[k] := ⟨_, rfl⟩
        have e0 := cc _ _ (act_at l k hkl).1
        have e1 := cc _ _ (act_at l k hkl).2.1
        have e2 := cc _ _ (act_at l k hkl).2.2.1
        have e3 := cc _ _ (act_at l k hkl).2.2.2
        rw [← hx] at e0 e1 e2 e3
        rw [add_off _ _ _ (by decide)] at e1 e2 e3
        have HT := Lib.hid hT
        have HSim := Lib.hid hSim
        have HBase := Lib.hid hCl
        have HNow : Hid (0 ≤ s.now ∧ s.now ≤ 1000 * 1048576) := Lib.hid (by have h1 := hCl.lo; have h2 := hCl.hi; omega)
        have HBM : Hid (1 ≤ s.base ∧ s.base ≤ s.most ∧ s.most ≤ 1048576) := Lib.hid (by rw [hCl.base, hCl.most]; exact H.out)
        clear cc hcell hT hSim hCl hbw hx
        by_cases hsz : (x.ref.name.size : Int) > 200
        · have hsz' : decide (200 < (x.ref.name.size : Int)) = true := decide_eq_true hsz
          go_wp2
          go_roundw
          case rel => exact ⟨k + 1, by omega, by omega, by go_num, Lib.hid ⟨s, d, r, v, HT.out.below (bel_allocT _ _), HSim.out.mono (by omega) (by omega), ⟨HBase.out.base, HBase.out.most, HBase.out.lo, by have := HBase.out.hi; push_cast; omega⟩⟩⟩
          case measure => simp [intOf]; omega
        · have hsz' : decide (200 < (x.ref.name.size : Int)) = false := decide_eq_false hsz
          have HSZ : Hid (x.ref.name.size ≤ 200) := Lib.hid (by omega)
          clear hsz
          go_upto_region 13 with (fail)
          obtain ⟨xb, hxb⟩ : ∃ xb, xb = wr.heap.size := ⟨_, rfl⟩
          rw [← hxb]
          have HK : Hid (K2 qb rb d v (wr.alloc (actBox x)).drew xb (actBox x)) := Lib.hid (by rw [hxb]; exact (K2.new HT.out _).below (G.bdrewN (Below.refl _ _) 1))
          have HXB := Lib.hid HK.out.is
          have CD := Lib.hid (does_any B qb rb s d r v k k w1 (wr.alloc (actBox x)).drew x (HT.out.below (G.bdrewN (bel_allocT _ _) 1)) HSim.out (HSim.out.lim (by omega) (by omega) (by have := HNow.out; omega) HBM.out) HSZ.out)
          clear e0 e1 e2 e3 hxb
          refine wp_region_held_drew (S := fun V => V.heap[xb]? = some (actBox x)) (by kernel_rfl) HXB.out (fun hS0 => ?_)
          refine tk 0 68 (.pointer (some ⟨qb, 0, none⟩)) ?_
          try simp only [s1, s2, s3]
          refine tk 1 69 (.pointer (some ⟨rb, 0, none⟩)) ?_
          try simp only [s1, s2, s3]
          refine tk 2 70 (.agg #[.int .i64 x.kind, .int .i64 x.ref.kind, .string x.ref.name, .int .i64 x.n]) ?_ (hv := by exact load_row_yields 32 (.tmp 11) rfl xb rfl 32 _ (0, 0) _ (fun V hV => hV) Try.underlying32 rfl size32)
          try simp only [s1, s2, s3]
          refine wpAnyH_ready (rs := [3]) (by kernel_rfl) (by simp) ?_
          refine AllReadyH.cons rfl (fun K hK => ?_) ?_
          · rw [if_pos (by rfl)]
            go_simp
            go_at_call 22
            refine CD.out.mono ?_
            rintro e wd ⟨rfl, hdd⟩
            obtain ⟨s5, d5, r5, v5, t5, sim5, le5, kk5⟩ := hdd
            have HT5 := Lib.hid t5
            have HSim5 := Lib.hid sim5
            have HLe5 := Lib.hid le5
            have hkx := kk5 _ _ HK.out
            have HX5 := Lib.hid hkx.is
            have HXL := Lib.hid hkx.lt
            have HL5 := Lib.hid (sim5.lim (by omega) (by omega) (le_now le5 HNow.out) (le_bm le5 HBM.out))
            have HX1 : Hid (∀ V, Below wd.heap.size wd V → V.rangeAt xb 1 (rc x.ref)) := Lib.hid (fun V hV => box_range ((hV.block xb hkx.lt).trans hkx.is))
            obtain ⟨LA, LC, hLs⟩ := owns_shape (t5.r.rows 0)
            obtain ⟨WA, WC, hWs⟩ := owns_shape (t5.r.rows 3)
            obtain ⟨LN, hLN⟩ : ∃ LN, s5.line.length = LN := ⟨_, rfl⟩
            obtain ⟨WN, hWN⟩ : ∃ WN, (s5.mp 2).length = WN := ⟨_, rfl⟩
            obtain ⟨NW, hNW⟩ : ∃ NW, s5.now = NW := ⟨_, rfl⟩
            obtain ⟨BB, hBB⟩ : ∃ BB, decide (0 < num (s5.mp 1) x.ref) = BB := ⟨_, rfl⟩
            obtain ⟨FF, hFF⟩ : ∃ FF, num (s5.mp 3) x.ref = FF := ⟨_, rfl⟩
            have hn0 : r5.n 0 = LN := by rw [← hLN, ← sim5.line]; rfl
            have hn3 : r5.n 3 = WN := by rw [← hWN, ← sim5.wlen]; rfl
            have HC3 : Hid (∀ V, Below wd.heap.size wd V → V.cell? ⟨rb, 3, none⟩ = some (.slice LA LN LC)) := Lib.hid (fun V hV => by have h := G.cell_below hV t5.r.c3; rw [hLs, hn0] at h; exact h)
            have HC6 : Hid (∀ V, Below wd.heap.size wd V → V.cell? ⟨rb, 6, none⟩ = some (.slice WA WN WC)) := Lib.hid (fun V hV => by have h := G.cell_below hV t5.r.c6; rw [hWs, hn3] at h; exact h)
            have HC2 : Hid (∀ V, Below wd.heap.size wd V → V.cell? ⟨rb, 2, none⟩ = some (.int .i64 NW)) := Lib.hid (fun V hV => by have h := G.cell_below hV t5.r.c2; rw [sim5.now, hNW] at h; exact h)
            have HC5 : Hid (∀ V, Below wd.heap.size wd V → V.cell? ⟨rb, 5, none⟩ = some (v5 2)) := Lib.hid (fun V hV => G.cell_below hV t5.r.c5)
            have HRL : Hid (∀ V, Below wd.heap.size wd V → Row V (.slice LA LN LC) r5.line) := Lib.hid (fun V hV => by have h := Row.of_owns ((t5.r.below hV).rows 0); rw [hLs, hn0] at h; exact h)
            have HRB : Hid (∀ V, Below wd.heap.size wd V → Row V (v5 2) r5.busy) := Lib.hid (fun V hV => Row.of_owns ((t5.r.below hV).rows 2))
            have HLE := Lib.hid sim5.line.symm
            have HLN := Lib.hid hLN
            have HWN := Lib.hid hWN
            have HNW := Lib.hid hNW
            have HBB := Lib.hid hBB
            have HFF := Lib.hid hFF
            have HBR : Hid (decide (x.ref ∈ r5.busy) = BB) := Lib.hid (by rw [← hBB]; exact decide_eq_decide.2 (sim5.busy x.ref))
            have HFR : Hid (rfail r5.fails x.ref = FF) := Lib.hid (by rw [← hFF, sim5.fail])
            have hbb : (BB != BB) = false := by simp
            clear t5 sim5 le5 kk5 hkx hLs hWs hLN hWN hNW hBB hFF hn0 hn3
            dsimp only
            refine hK.out _ _ (HX5.out) (fun hHeld => ?_)
            clear hK K
            refine wpAnyH_str (S' := fun V => Below wd.heap.size wd V) (fun V hV => (hV.block xb HXL.out).trans HX5.out) _ _ _ _ ?_
            have hSd : Below wd.heap.size wd wd := Below.refl _ _
            try simp only [Act.put, s1, s2, s3]
            refine tk 4 72 (.bool false) ?_
            try simp only [s1, s2, s3]
            refine tk 5 73 (.bool false) ?_
            try simp only [s1, s2, s3]
            refine tk 6 74 (.pointer (some ⟨qb, 0, none⟩)) ?_
            try simp only [s1, s2, s3]
            refine tk 8 76 (.pointer (some ⟨rb, 0, none⟩)) ?_
            try simp only [s1, s2, s3]
            refine tk 9 77 (.pointer (some ⟨rb, 0, none⟩)) ?_
            try simp only [s1, s2, s3]
            refine tk 10 78 (.pointer (some ⟨rb, 3, none⟩)) ?_
            try simp only [s1, s2, s3]
            refine tk 11 79 (.slice LA LN LC) ?_ (hv := by (intro V hV; have cc := HC3.out V hV; clear hV; go_simp; try rfl))
            try simp only [s1, s2, s3]
            refine wpAnyH_ready (rs := [7]) (by kernel_rfl) (by simp) ?_
            refine AllReadyH.cons rfl (fun K hK => ?_) ?_
            · rw [if_pos (by rfl)]
              go_simp
              go_at_call 15
              refine (line_any _ qb _ _ _ HT5.out.q HL5.out.q1).mono ?_
              rintro e wa ⟨lv, rfl, hown, hba⟩
              have HOwn := Lib.hid hown
              have HBa := Lib.hid hba
              clear hown hba
              dsimp only
              refine hK.out _ _ (HBa.out) (fun hHeld => ?_)
              clear hK K
              try simp only [Act.put, s1, s2, s3]
              refine wpAnyH_ready (rs := [12]) (by kernel_rfl) (by simp) ?_
              refine AllReadyH.cons rfl (fun K hK => ?_) ?_
              · rw [if_pos (by rfl)]
                go_simp
                go_at_call 23
                refine (same_true _ _ _ _ _ (Row.of_owns HOwn.out) (HRL.out wa HBa.out) HLE.out HL5.out.q1).mono ?_
                rintro e wb ⟨rfl, hqb⟩
                have HBb : Hid (Below wd.heap.size wd wb) := Lib.hid (by obtain ⟨q, hq⟩ := hqb; rw [hq]; exact G.bdrewN HBa.out q)
                clear hqb
                dsimp only
                refine hK.out _ _ (HBb.out) (fun hHeld => ?_)
                clear hK K
                try simp only [Act.put, s1, s2, s3]
                refine tk 13 81 (.bool false) ?_
                try simp only [s1, s2, s3]
                refine tk 14 82 (.bool false) ?_
                try simp only [s1, s2, s3]
                refine tk 15 83 (.bool false) ?_
                try simp only [s1, s2, s3]
                refine tk 16 84 (.pointer (some ⟨qb, 0, none⟩)) ?_
                try simp only [s1, s2, s3]
                refine tk 18 86 (.pointer (some ⟨rb, 0, none⟩)) ?_
                try simp only [s1, s2, s3]
                refine tk 19 87 (.pointer (some ⟨rb, 0, none⟩)) ?_
                try simp only [s1, s2, s3]
                refine tk 20 88 (.pointer (some ⟨rb, 3, none⟩)) ?_
                try simp only [s1, s2, s3]
                refine tk 21 89 (.slice LA LN LC) ?_ (hv := by (intro V hV; have cc := HC3.out V hV; clear hV; go_simp; try rfl))
                try simp only [s1, s2, s3]
                refine tk 22 90 (.int .i64 LN) ?_
                try simp only [s1, s2, s3]
                refine wpAnyH_ready (rs := [17]) (by kernel_rfl) (by simp) ?_
                refine AllReadyH.cons rfl (fun K hK => ?_) ?_
                · rw [if_pos (by rfl)]
                  go_simp
                  go_at_call 18
                  refine (len_same _ qb _ _ _ (HT5.out.q.below HBb.out)).mono ?_
                  rintro e wb' ⟨rfl, rfl⟩
                  rw [HLN.out]
                  dsimp only
                  refine hK.out _ _ (HBb.out) (fun hHeld => ?_)
                  clear hK K
                  try simp only [Act.put, s1, s2, s3]
                  refine tk 23 91 (.bool false) ?_
                  try simp only [s1, s2, s3]
                  refine tk 24 92 (.bool false) ?_
                  try simp only [s1, s2, s3]
                  refine tk 25 93 (.bool false) ?_
                  try simp only [s1, s2, s3]
                  refine tk 26 94 (.pointer (some ⟨qb, 0, none⟩)) ?_
                  try simp only [s1, s2, s3]
                  refine tk 28 96 (.pointer (some ⟨rb, 0, none⟩)) ?_
                  try simp only [s1, s2, s3]
                  refine tk 29 97 (.pointer (some ⟨rb, 0, none⟩)) ?_
                  try simp only [s1, s2, s3]
                  refine tk 30 98 (.pointer (some ⟨rb, 6, none⟩)) ?_
                  try simp only [s1, s2, s3]
                  refine tk 31 99 (.slice WA WN WC) ?_ (hv := by (intro V hV; have cc := HC6.out V hV; clear hV; go_simp; try rfl))
                  try simp only [s1, s2, s3]
                  refine tk 32 100 (.int .i64 WN) ?_
                  try simp only [s1, s2, s3]
                  refine wpAnyH_ready (rs := [27]) (by kernel_rfl) (by simp) ?_
                  refine AllReadyH.cons rfl (fun K hK => ?_) ?_
                  · rw [if_pos (by rfl)]
                    go_simp
                    go_at_call 17
                    refine (waiting_same _ qb _ _ _ (HT5.out.q.below HBb.out)).mono ?_
                    rintro e wb' ⟨rfl, rfl⟩
                    rw [HWN.out]
                    dsimp only
                    refine hK.out _ _ (HBb.out) (fun hHeld => ?_)
                    clear hK K
                    try simp only [Act.put, s1, s2, s3]
                    refine tk 33 101 (.bool false) ?_
                    try simp only [s1, s2, s3]
                    refine tk 34 102 (.bool false) ?_
                    try simp only [s1, s2, s3]
                    refine tk 35 103 (.bool false) ?_
                    try simp only [s1, s2, s3]
                    refine tk 36 104 (.pointer (some ⟨qb, 0, none⟩)) ?_
                    try simp only [s1, s2, s3]
                    refine tk 38 106 (.pointer (some ⟨rb, 0, none⟩)) ?_
                    try simp only [s1, s2, s3]
                    refine tk 39 107 (.pointer (some ⟨rb, 0, none⟩)) ?_
                    try simp only [s1, s2, s3]
                    refine tk 40 108 (.pointer (some ⟨rb, 2, none⟩)) ?_
                    try simp only [s1, s2, s3]
                    refine tk 41 109 (.int .i64 NW) ?_ (hv := by (intro V hV; have cc := HC2.out V hV; clear hV; go_simp; try rfl))
                    try simp only [s1, s2, s3]
                    refine wpAnyH_ready (rs := [37]) (by kernel_rfl) (by simp) ?_
                    refine AllReadyH.cons rfl (fun K hK => ?_) ?_
                    · rw [if_pos (by rfl)]
                      go_simp
                      go_at_call 24
                      refine (now_same _ qb _ _ _ (HT5.out.q.below HBb.out)).mono ?_
                      rintro e wb' ⟨rfl, rfl⟩
                      rw [HNW.out]
                      dsimp only
                      refine hK.out _ _ (HBb.out) (fun hHeld => ?_)
                      clear hK K
                      try simp only [Act.put, s1, s2, s3]
                      refine tk 42 110 (.bool false) ?_
                      try simp only [s1, s2, s3]
                      refine tk 43 111 (.bool false) ?_
                      try simp only [s1, s2, s3]
                      refine tk 44 112 (.bool false) ?_
                      try simp only [s1, s2, s3]
                      refine tk 45 113 (.pointer (some ⟨qb, 0, none⟩)) ?_
                      try simp only [s1, s2, s3]
                      refine tk 46 114 (.pointer (some ⟨xb, 1, none⟩)) ?_
                      try simp only [s1, s2, s3]
                      refine tk 47 115 (.agg #[.int .i64 x.ref.kind, .string x.ref.name]) ?_ (hv := by exact load_mid_yields 30 (.tmp 114) rfl xb 1 rfl (rc x.ref) _ (fun V hV => HX1.out V hV) Try.underlying30 rfl size30)
                      try simp only [s1, s2, s3]
                      refine tk 49 117 (.pointer (some ⟨rb, 0, none⟩)) ?_
                      try simp only [s1, s2, s3]
                      refine tk 50 118 (.pointer (some ⟨rb, 0, none⟩)) ?_
                      try simp only [s1, s2, s3]
                      refine tk 51 119 (.pointer (some ⟨rb, 5, none⟩)) ?_
                      try simp only [s1, s2, s3]
                      refine tk 52 120 (v5 2) ?_ (hv := by (intro V hV; have cc := HC5.out V hV; clear hV; go_simp; try rfl))
                      try simp only [s1, s2, s3]
                      refine tk 53 121 (.pointer (some ⟨xb, 1, none⟩)) ?_
                      try simp only [s1, s2, s3]
                      refine tk 54 122 (.agg #[.int .i64 x.ref.kind, .string x.ref.name]) ?_ (hv := by exact load_mid_yields 30 (.tmp 121) rfl xb 1 rfl (rc x.ref) _ (fun V hV => HX1.out V hV) Try.underlying30 rfl size30)
                      try simp only [s1, s2, s3]
                      refine wpAnyH_ready (rs := [48]) (by kernel_rfl) (by simp) ?_
                      refine AllReadyH.cons rfl (fun K hK => ?_) ?_
                      · rw [if_pos (by rfl)]
                        go_simp
                        go_at_call 12
                        refine (busy_any _ qb _ _ x.ref _ (HT5.out.q.below HBb.out)).mono ?_
                        rintro e wc ⟨rfl, hbc⟩
                        have HBc := Lib.hid (G.bthen HBb.out hbc)
                        clear hbc
                        rw [HBB.out]
                        dsimp only
                        refine hK.out _ _ (HBc.out) (fun hHeld => ?_)
                        clear hK K
                        try simp only [Act.put, s1, s2, s3]
                        refine wpAnyH_ready (rs := [55]) (by kernel_rfl) (by simp) ?_
                        refine AllReadyH.cons rfl (fun K hK => ?_) ?_
                        · rw [if_pos (by rfl)]
                          go_simp
                          go_at_call 10
                          refine (has_any _ _ x.ref _ (HRB.out wc HBc.out) (HL5.out.r1 2)).mono ?_
                          rintro e we ⟨rfl, hbe⟩
                          have HBe := Lib.hid (G.bthen HBc.out hbe)
                          clear hbe
                          rw [HBR.out]
                          dsimp only
                          refine hK.out _ _ (HBe.out) (fun hHeld => ?_)
                          clear hK K
                          try simp only [Act.put, s1, s2, s3]
                          refine tk 56 124 (.bool false) ?_
                          try simp only [s1, s2, s3]
                          refine tk 57 125 (.bool false) ?_
                          try simp only [s1, s2, s3]
                          refine tk 58 126 (.bool false) ?_
                          try simp only [s1, s2, s3]
                          refine tk 59 127 (.pointer (some ⟨qb, 0, none⟩)) ?_
                          try simp only [s1, s2, s3]
                          refine tk 60 128 (.pointer (some ⟨xb, 1, none⟩)) ?_
                          try simp only [s1, s2, s3]
                          refine tk 61 129 (.agg #[.int .i64 x.ref.kind, .string x.ref.name]) ?_ (hv := by exact load_mid_yields 30 (.tmp 128) rfl xb 1 rfl (rc x.ref) _ (fun V hV => HX1.out V hV) Try.underlying30 rfl size30)
                          try simp only [s1, s2, s3]
                          refine tk 63 131 (.pointer (some ⟨rb, 0, none⟩)) ?_
                          try simp only [s1, s2, s3]
                          refine tk 64 132 (.pointer (some ⟨xb, 1, none⟩)) ?_
                          try simp only [s1, s2, s3]
                          refine tk 65 133 (.agg #[.int .i64 x.ref.kind, .string x.ref.name]) ?_ (hv := by exact load_mid_yields 30 (.tmp 132) rfl xb 1 rfl (rc x.ref) _ (fun V hV => HX1.out V hV) Try.underlying30 rfl size30)
                          try simp only [s1, s2, s3]
                          refine wpAnyH_ready (rs := [62]) (by kernel_rfl) (by simp) ?_
                          refine AllReadyH.cons rfl (fun K hK => ?_) ?_
                          · rw [if_pos (by rfl)]
                            go_simp
                            go_at_call 21
                            refine (fails_any _ qb _ _ x.ref _ (HT5.out.q.below HBe.out)).mono ?_
                            rintro e wf ⟨rfl, hbf⟩
                            have HBf := Lib.hid (G.bthen HBe.out hbf)
                            clear hbf
                            rw [HFF.out]
                            dsimp only
                            refine hK.out _ _ (HBf.out) (fun hHeld => ?_)
                            clear hK K
                            try simp only [Act.put, s1, s2, s3]
                            refine wpAnyH_ready (rs := [66]) (by kernel_rfl) (by simp) ?_
                            refine AllReadyH.cons rfl (fun K hK => ?_) ?_
                            · rw [if_pos (by rfl)]
                              go_simp
                              go_at_call 25
                              refine (rfailed_any _ rb _ _ x.ref _ (HT5.out.r.below HBf.out) HL5.out.r1).mono ?_
                              rintro e wg ⟨rfl, hbg⟩
                              have HBg := Lib.hid (G.bthen HBf.out hbg)
                              clear hbg
                              rw [HFR.out]
                              dsimp only
                              refine hK.out _ _ (HBg.out) (fun hHeld => ?_)
                              clear hK K
                              try simp only [Act.put, s1, s2, s3]
                              refine tk 67 135 (.bool false) ?_
                              try simp only [s1, s2, s3]
                              refine tk 68 136 (.bool false) ?_
                              try simp only [s1, s2, s3]
                              refine wpAnyH_done (by kernel_rfl) ?_ _
                              go_wp2
                              go_roundw
                              case rel => exact ⟨k + 1, by omega, by omega, by go_num, Lib.hid ⟨s5, d5, r5, v5, HT5.out.below HBg.out, HSim5.out, le_pl HLe5.out HBase.out⟩⟩
                              case measure => simp [intOf]; omega
                            exact AllReadyH.nil
                          exact AllReadyH.nil
                        exact AllReadyH.nil
                      exact AllReadyH.nil
                    exact AllReadyH.nil
                  exact AllReadyH.nil
                exact AllReadyH.nil
              exact AllReadyH.nil
            exact AllReadyH.nil
          exact AllReadyH.nil
      · have : k = 100 := by omega
        subst this
        go_wp2
        go_ret
        obtain ⟨s, d, r, v, hT, _⟩ := HPL.out
        exact ⟨rfl, G.bthen HB1.out (by rw [← HB.out]; exact hT.bel)⟩
    · have : k = n := by omega
      subst this
      go_wp2
      go_ret
      obtain ⟨s, d, r, v, hT, _⟩ := HPL.out
      exact ⟨rfl, G.bthen HB1.out (by rw [← HB.out]; exact hT.bel)⟩
theorem plays_any (base top : Int) (A : Option Addr) (n c : Nat) (l : List Act7) (w : World) (hn : n = l.length) (h : G.HasRow w 4 (.slice A n c) n (l.flatMap ac)) :
    Calls Try.prog 5 #[.int .i64 base, .int .i64 top, .slice A n c] w fun e w' => e = .returned (.bool true) ∧ Below w.heap.size w w' := by
  by_cases hb : 1 ≤ base ∧ base ≤ top ∧ top ≤ 1048576
  · exact plays_main base top A n c l w hb hn h
  · exact plays_bad base top _ w (by omega)
end Go.Proofs.Ythmknlflgajnpaa
