/- Shapes: has an object one? The walk. -/
import Derived.Test.YtolndeolehkjoaaSh2c
namespace Go.Proofs.Ytolndeolehkjoaa
set_option linter.unusedVariables false
set_option linter.unusedSimpArgs false
open Go.RowKit CodP
theorem wpList_append_run {P : Program} {ops : Array Oper} {rest : List Oper} {o : Oper} {a : Act} {Q : Exit → Act → World → Prop} {w : World} (hgd : o.guard = none) (s x : Operand) (t : TypeId)
    (ho : o.op = .call { callee := .builtin .append, args := #[s, x], argTypes := #[t, t] }) {v v2 v1 : Value} {w1 : World}
    (hs : a.eval s = v) (hx : a.eval x = v2) (hrun : (Builtin.append_ #[t, t] o.type #[v, v2]).run P w = .ok v1 w1) (h : wpList P ops Q rest (a.put o.dst v1) w1) : wpList P ops Q (o :: rest) a w := by
  refine wpList_plain hgd fun _ hK => ?_
  unfold Oper.wp
  simp [execOp, ho, resolve, invoke, builtin, hs, hx, hrun, Result.andThen]
  exact hK _ _ h
set_option maxRecDepth 100000 in
/-- three numbers and a row of others behind them, in a new row -/
theorem three_app (w : World) (a b d : Int) (L : List Int) (A : Option Addr) (c : Nat) (hL : L.length ≤ 1000000) (hr : RowR w A (L.flatMap cI)) :
    ∃ g c' w1, (Builtin.append_ #[30, 30] 30 #[.slice (some ⟨w.heap.size, 0, none⟩) 3 3, .slice A L.length c]).run Try.prog (w.alloc (.cells #[.int .i64 a, .int .i64 b, .int .i64 d] 3)) = .ok (.slice (some ⟨g, 0, none⟩) (3 + L.length) c') w1 ∧
      RowR w1 (some ⟨g, 0, none⟩) (([a, b, d] ++ L).flatMap cI) ∧ Below w.heap.size w w1 := by
  obtain ⟨i0, hi, hzz⟩ := Option.map_eq_some_iff.1 info3
  simp only [Prod.mk.injEq] at hzz
  obtain ⟨hz0, hz1, hz2⟩ := hzz
  have hr1 := hr.below (bel_alloc w (.cells #[.int .i64 a, .int .i64 b, .int .i64 d] 3))
  have own : (w.alloc (.cells #[.int .i64 a, .int .i64 b, .int .i64 d] 3)).ownsRow w.heap.size 3 1 (.slice (some ⟨w.heap.size, 0, none⟩) 3 3) 3 [.int .i64 a, .int .i64 b, .int .i64 d] :=
    ⟨rfl, .inr ⟨w.heap.size, 3, _, rfl, Nat.le_refl _, G.heap_new _ _, Nat.le_refl _, by decide, rfl, rfl⟩⟩
  have rows : ∀ {W : World} {g m : Nat} {c' : Nat} {xs : List Value}, W.ownsRow w.heap.size 3 1 (.slice (some ⟨g, 0, none⟩) m c') m xs → RowR W (some ⟨g, 0, none⟩) xs := fun {W g m c' xs} h j u hj => ⟨_, rfl, h.cells (g := g) rfl j u hj⟩
  cases L with
  | nil =>
    refine ⟨w.heap.size, 3, w.alloc (.cells #[.int .i64 a, .int .i64 b, .int .i64 d] 3), ?_, ?_, bel_alloc _ _⟩
    · cases A <;> simp [Builtin.append_, run_underlying Try.underlying30, sizeOf, typeInfo, hi, storeCells, Builtin.lenOf, Builtin.firstCells, loadCells, loadCellsFrom]
    · exact rows own
  | cons x L =>
    obtain ⟨ad, rfl, _⟩ := hr 0 (.int .i64 x) rfl
    obtain ⟨v', w', hrun, h2, h3, _, _⟩ := run_append_own_at (P := Try.prog) (w := w.alloc (.cells #[.int .i64 a, .int .i64 b, .int .i64 d] 3)) w.heap.size 30 30 3 i0 (.int .i64 0) 1 8 Try.underlying30 hi hz0 hz1 hz2 rfl (by decide) _ 3 _ own ad (x :: L).length c ((x :: L).flatMap cI)
      (by rw [flat_len cI 1 (fun _ => rfl)]) (fun j u hj => by obtain ⟨ad', he, hc⟩ := hr1 j u hj; injection he with he; subst he; exact hc)
      (fun u hu => by obtain ⟨y, _, hy⟩ := List.mem_flatMap.1 hu; exact one_I y u hy) (by simp only [List.length_cons] at *; unfold maxLen; omega) (by simp only [List.length_cons] at *; omega) (by simp)
    obtain ⟨g, c', rfl⟩ : ∃ g c', v' = .slice (some ⟨g, 0, none⟩) (3 + (x :: L).length) c' := by
      rcases h2.2 with ⟨_, h0⟩ | ⟨g, c', cur, hv, _⟩
      · simp only [List.length_cons] at h0; omega
      · exact ⟨g, c', hv⟩
    refine ⟨g, c', w', hrun, rows h2, ?_⟩
    exact Below.grown (bel_alloc _ _) h3 (by simp) (fun k hk => by have := G.owns_base own k hk; exact this)

theorem textsI_any (L : List ByteArray) (A : Option Addr) (c m : Nat) (mi : Int) (hm : mi = m) (n : Nat) (hn : L.length = n) (hL : L.length ≤ 1000000) (r : Bool) (hres : textsB L m = r) (w : World) (hr : RowR w A (L.flatMap cS)) :
    Calls Try.prog 52 #[.slice A n c, .int .i64 mi] w fun e w' => e = .returned (.bool r) ∧ Below w.heap.size w w' := by
  subst hm; subst hn
  exact texts_any L A c m hL r hres w hr
def restB (o : Ob) : Bool := inR o.uid 1099511627776 && (inR o.version 1099511627776 && (textsB [o.name, o.status, o.v4, o.v6, o.sel, o.about, o.reason] 7 && (textsB o.fins 4 && (textsB o.cidrs 8 && (textsB o.ips 8 && (decide ((o.fams.length : Int) ≤ 8) && labelsB o.labels))))))
theorem fams_dec (n : Nat) : decide ((n : Int) ≤ 8) = decide (n ≤ 8) := by
  by_cases h : n ≤ 8
  · rw [decide_eq_true h, decide_eq_true (by omega)]
  · rw [decide_eq_false h, decide_eq_false (by omega)]
theorem shape_ints (o : Ob) (v : Int) (hv : v ∈ [o.type, o.policy, o.bits] ++ o.fams) (h : inR v 255 = false) : CodP.shape o = false := by
  cases hs : CodP.shape o
  · rfl
  · exfalso
    simp only [CodP.shape, Bool.and_eq_true, List.all_eq_true] at hs
    have hx : inR v 255 = true := by
      simp only [List.cons_append, List.nil_append, List.mem_cons] at hv
      rcases hv with rfl | rfl | rfl | hv
      · simp_all
      · simp_all
      · simp_all
      · have := hs.1.1.1.1.1.1.1.2.2 v hv
        exact this
    rw [h] at hx; cases hx
theorem shape_rest (o : Ob) (hk : 1 ≤ o.kind ∧ o.kind ≤ 4) (ho : only o = true) (hz : ([o.type, o.policy, o.bits] ++ o.fams).all (fun n => inR n 255) = true) : CodP.shape o = restB o := by
  have h0 : inR (o.kind - 1) 3 = true := decide_eq_true (by omega)
  simp only [List.cons_append, List.nil_append, List.all_cons, Bool.and_eq_true] at hz
  simp only [CodP.shape, restB, h0, ho, hz.1, hz.2.1, hz.2.2.1, hz.2.2.2, Bool.true_and, Bool.and_true, fams_dec, textsB, List.length_cons, List.length_nil, Bool.and_assoc]
  rfl
set_option maxRecDepth 100000 in
set_option maxHeartbeats 8000000 in
theorem shape_any (o : Ob) (f l c p i : Sl) (hs : o.fins.length ≤ 1000000 ∧ o.labels.length ≤ 1000000 ∧ o.cidrs.length ≤ 1000000 ∧ o.fams.length ≤ 1000000 ∧ o.ips.length ≤ 1000000) (w : World) (hr : RowsR w o f l c p i) :
    Calls Try.prog 21 #[.agg (oc o f l c p i)] w fun e w' => e = .returned (.bool (CodP.shape o)) ∧ Below w.heap.size w w' := by
  obtain ⟨w1, hw1⟩ : ∃ w1, w1 = w.alloc (.cells (oc o f l c p i) 32) := ⟨_, rfl⟩
  have b1 : Below w.heap.size w w1 := by rw [hw1]; exact bel_alloc _ _
  have p1 : w1.heap[w.heap.size]? = some (.cells (oc o f l c p i) 32 (0, 0)) := by rw [hw1]; exact G.heap_new _ _
  obtain ⟨x, hx⟩ : ∃ x, x = w.heap.size := ⟨_, rfl⟩
  rw [← hx] at p1
  have c0 : w1.cell? ⟨x, 0, none⟩ = some (.int .i64 o.kind) := by simp [World.cell?, p1, oc]
  have HR := Lib.hid (hr.below b1)
  have HW := Lib.hid hw1
  have P1 := Lib.hid p1
  have B1 := Lib.hid b1
  have HS := Lib.hid hs
  clear b1 p1 hw1 hr hs
  by_cases hk1 : o.kind < 1
  · have hsh : CodP.shape o = false := by
      simp only [CodP.shape, inR]
      rw [decide_eq_false (by omega)]; rfl
    have HSH := Lib.hid hsh
    have hd : decide (o.kind < 1) = true := decide_eq_true hk1
    clear hsh
    go_enter Try.func21, Try.ntmps21
    go_upto_region 1 with (fail)
    rw [← HW.out, ← hx]
    clear hx
    go_wp2
    go_ret
    exact ⟨by rw [HSH.out]; rfl, B1.out⟩
  have hd1 : decide (o.kind < 1) = false := decide_eq_false hk1
  by_cases hk4 : 4 < o.kind
  · have hsh : CodP.shape o = false := by
      simp only [CodP.shape, inR]
      rw [decide_eq_false (by omega)]; rfl
    have HSH := Lib.hid hsh
    have hd : decide (4 < o.kind) = true := decide_eq_true hk4
    clear hsh
    go_enter Try.func21, Try.ntmps21
    go_upto_region 1 with (fail)
    rw [← HW.out, ← hx]
    clear hx
    go_wp2
    go_ret
    exact ⟨by rw [HSH.out]; rfl, B1.out⟩
  have hd4 : decide (4 < o.kind) = false := decide_eq_false hk4
  have hkk : 1 ≤ o.kind ∧ o.kind ≤ 4 := by omega
  have hb := bare_any o f l c p i hkk w1 HR.out
  have HB := Lib.hid hb
  have hsm := bare_same o hkk
  have hlen : (bareO o).fins.length ≤ 1000000 ∧ (bareO o).labels.length ≤ 1000000 ∧ (bareO o).cidrs.length ≤ 1000000 ∧ (bareO o).fams.length ≤ 1000000 ∧ (bareO o).ips.length ≤ 1000000 := by
    have := HS.out
    unfold bareO
    split
    · exact ⟨by simp [bare1, base0], by simp [bare1, base0], by simp [bare1, base0], this.2.2.2.1, this.2.2.2.2⟩
    split
    · exact ⟨by simp [bare2, base0], by simp [bare2, base0], this.2.2.1, by simp [bare2, base0], by simp [bare2, base0]⟩
    split
    · exact ⟨by simp [bare3, base0], by simp [bare3, base0], this.2.2.1, this.2.2.2.1, this.2.2.2.2⟩
    · exact ⟨by simp [bare4, base0], by simp [bare4, base0], this.2.2.1, this.2.2.2.1, this.2.2.2.2⟩
  have HLEN := Lib.hid hlen
  have HSM := Lib.hid hsm
  have HKK := Lib.hid hkk
  clear hb hsm hlen hk1 hk4 hkk
  cases hon : only o
  · have hsh : CodP.shape o = false := by
      simp only [CodP.shape, hon, Bool.and_false, Bool.false_and]
    have HSH := Lib.hid hsh
    have HON := Lib.hid hon
    clear hsh hon
    go_enter Try.func21, Try.ntmps21
    go_upto_region 1 with (fail)
    rw [← HW.out, ← hx]
    clear hx
    repeat (first | (refine wp_load_row 32 (.tmp 1) rfl x rfl 32 _ (0, 0) _ P1.out Try.underlying32 rfl size32 ?_) | go_values | go_skip | go_guarded | go_step)
    go_wp2_with (fail)
    refine HB.out.mono ?_
    rintro e w2 ⟨f', l', c', p', i', rfl, hr2, hb2⟩
    have HR2 := Lib.hid hr2
    have HB2 := Lib.hid hb2
    clear hr2 hb2
    go_wp2_with (go_at_call 49; refine (same_any (bareO o) zeroOb f' l' c' p' i' Sl0 Sl0 Sl0 Sl0 Sl0 HLEN.out w2 HR2.out ⟨RowR.nil _ _, RowR.nil _ _, RowR.nil _ _, RowR.nil _ _, RowR.nil _ _⟩).mono ?_; rw [HSM.out, HON.out]; rintro e w3 ⟨rfl, hb3⟩)
    go_ret
    exact ⟨by rw [HSH.out]; rfl, B1.out.trans (belowLe B1.out.size (G.bthen HB2.out hb3))⟩
  · have HON := Lib.hid hon
    clear hon
    go_enter Try.func21, Try.ntmps21
    go_upto_region 1 with (fail)
    rw [← HW.out, ← hx]
    clear hx
    repeat (first | (refine wp_load_row 32 (.tmp 1) rfl x rfl 32 _ (0, 0) _ P1.out Try.underlying32 rfl size32 ?_) | go_values | go_skip | go_guarded | go_step)
    go_wp2_with (fail)
    refine HB.out.mono ?_
    rintro e w2 ⟨f', l', c', p', i', rfl, hr2, hb2⟩
    have HR2 := Lib.hid hr2
    have HB2 := Lib.hid hb2
    clear hr2 hb2
    go_upto_region 3 with (go_at_call 49; refine (same_any (bareO o) zeroOb f' l' c' p' i' Sl0 Sl0 Sl0 Sl0 Sl0 HLEN.out w2 HR2.out ⟨RowR.nil _ _, RowR.nil _ _, RowR.nil _ _, RowR.nil _ _, RowR.nil _ _⟩).mono ?_; rw [HSM.out, HON.out]; rintro e w3 ⟨rfl, hb3⟩)
    have b13 := G.bthen HB2.out hb3
    have p3 : w3.heap[x]? = some (.cells (oc o f l c p i) 32 (0, 0)) := (b13.block x (Array.getElem?_eq_some_iff.1 P1.out).1).trans P1.out
    have r3 := HR.out.below b13
    have B3 := Lib.hid (B1.out.trans (belowLe B1.out.size b13))
    have q9 : w3.cell? ⟨x, 9, none⟩ = some (.int .i64 o.type) := by simp [World.cell?, p3, oc]
    have q10 : w3.cell? ⟨x, 10, none⟩ = some (.int .i64 o.policy) := by simp [World.cell?, p3, oc]
    have q15 : w3.cell? ⟨x, 15, none⟩ = some (.int .i64 o.bits) := by simp [World.cell?, p3, oc]
    have q11 : (w3.alloc (.cells #[.int .i64 o.type, .int .i64 o.policy, .int .i64 o.bits] 3)).cell? ⟨x, 11, none⟩ = some (.slice p.A o.fams.length p.c) := by
      have := ((bel_alloc w3 (.cells #[.int .i64 o.type, .int .i64 o.policy, .int .i64 o.bits] 3)).block x (Array.getElem?_eq_some_iff.1 p3).1).trans p3
      simp [World.cell?, this, oc]
    obtain ⟨g, cc, w4, hrun, hrow, hb4⟩ := three_app w3 o.type o.policy o.bits o.fams p.A p.c HS.out.2.2.2.1 r3.pr
    have M1 := Lib.hid hrun
    have ROW := Lib.hid hrow
    have B4 := Lib.hid (B3.out.trans (belowLe B3.out.size hb4))
    have P4 := Lib.hid ((hb4.block x (Array.getElem?_eq_some_iff.1 p3).1).trans p3)
    have R4 := Lib.hid (r3.below hb4)
    clear b13 p3 r3 hrun hrow hb4 hb3 c0
    go_wp2_with (at_builtin; refine wpList_append_run rfl (.tmp 27) (.tmp 29) 30 rfl rfl rfl M1.out ?_)
    obtain ⟨zs, hzs⟩ : ∃ zs, zs = [o.type, o.policy, o.bits] ++ o.fams := ⟨_, rfl⟩
    have hzl : zs.length = 3 + o.fams.length := by rw [hzs]; simp; omega
    have ROWZ : Hid (RowR w4 (some ⟨g, 0, none⟩) (zs.flatMap cI)) := Lib.hid (by rw [hzs]; exact ROW.out)
    have HZ := Lib.hid hzs
    have HZL := Lib.hid hzl
    have hN : (o.fams.length : Int) ≤ 1000000 := by have := HS.out.2.2.2.1; omega
    clear hzs hzl q9 q10 q15 q11
    go_loopw [32] (fun i wr => ∃ k : Nat, k ≤ 3 + o.fams.length ∧ i = .int .i64 k ∧ Hid ((zs.take k).all (fun n => inR n 255) = true ∧ wr = w4)) (fun i _ => 3 + o.fams.length - (intOf i).toNat)
    case atStart => exact ⟨0, Nat.zero_le _, rfl, Lib.hid ⟨by simp, rfl⟩⟩
    case round =>
      obtain ⟨k, hk, rfl, H⟩ := hrel
      obtain rfl := H.out.2
      by_cases hkn : k < 3 + o.fams.length
      · obtain ⟨v, hv⟩ : ∃ v, zs[k]? = some v := ⟨_, List.getElem?_eq_getElem (by rw [HZL.out]; exact hkn)⟩
        have h1 := flat_at cI 1 (fun _ => rfl) zs k v hv 0 (by omega)
        obtain ⟨ad, hA, e1⟩ := ROWZ.out _ _ h1
        injection hA with hA
        subst hA
        simp only [Nat.mul_one, Nat.add_zero, G.add_plain, Nat.zero_add] at e1
        have HV := Lib.hid hv
        cases hin : inR v 255
        · have hc := fun V => within_any v 255 false hin V
          have HC := Lib.hid hc
          have HIN := Lib.hid hin
          clear hc h1 hv hin
          go_wp2_with (go_at_call 51; refine (HC.out _).mono ?_; rintro e w5 ⟨rfl, rfl⟩)
          go_ret
          have hsf := shape_ints o v (by rw [← HZ.out]; exact List.mem_of_getElem? HV.out) HIN.out
          exact ⟨by rw [hsf]; rfl, B4.out⟩
        · have hc := fun V => within_any v 255 true hin V
          have HC := Lib.hid hc
          have HIN := Lib.hid hin
          clear hc h1 hv hin
          go_wp2_with (go_at_call 51; refine (HC.out _).mono ?_; rintro e w5 ⟨rfl, rfl⟩)
          go_roundw
          case rel => exact ⟨k + 1, by omega, by go_num, Lib.hid ⟨by rw [List.take_add_one, HV.out, List.all_append, H.out.1]; simp [HIN.out], trivial⟩⟩
          case measure => simp [intOf]; omega
      · obtain rfl : k = 3 + o.fams.length := by omega
        have hsr := shape_rest o HKK.out HON.out (by rw [← HZ.out]; have := H.out.1; rwa [List.take_of_length_le (by rw [HZL.out]; exact Nat.le_refl _)] at this)
        have HSR := Lib.hid hsr
        clear hsr
        obtain ⟨w5, hw5⟩ : ∃ w5, w5 = wr.alloc (.cells #[.string o.name, .string o.status, .string o.v4, .string o.v6, .string o.sel, .string o.about, .string o.reason] 9) := ⟨_, rfl⟩
        have b5 : Below wr.heap.size wr w5 := by rw [hw5]; exact bel_alloc _ _
        have r7 : RowR w5 (some ⟨wr.heap.size, 0, none⟩) ([o.name, o.status, o.v4, o.v6, o.sel, o.about, o.reason].flatMap cS) := fun j u hj => by
          refine ⟨_, rfl, ?_⟩
          rw [G.add_plain, Nat.zero_add]
          have key : w5.heap[wr.heap.size]? = some (.cells #[.string o.name, .string o.status, .string o.v4, .string o.v6, .string o.sel, .string o.about, .string o.reason] 9 (0, 0)) := by rw [hw5]; exact G.heap_new _ _
          simp only [World.cell?, key]
          simpa [cS] using hj
        have p5 : w5.heap[x]? = some (.cells (oc o f l c p i) 32 (0, 0)) := (b5.block x (Array.getElem?_eq_some_iff.1 P4.out).1).trans P4.out
        have R7 := Lib.hid r7
        have R5 := Lib.hid (R4.out.below b5)
        have B5 := Lib.hid (B4.out.trans (belowLe B4.out.size b5))
        have HW5 := Lib.hid hw5
        have hb5 := Below.refl w5.heap.size w5
        have n1 : wr.cell? ⟨x, 1, none⟩ = some (.string o.name) := by simp [World.cell?, P4.out, oc]
        have n8 : wr.cell? ⟨x, 8, none⟩ = some (.string o.status) := by simp [World.cell?, P4.out, oc]
        have n13 : wr.cell? ⟨x, 13, none⟩ = some (.string o.v4) := by simp [World.cell?, P4.out, oc]
        have n14 : wr.cell? ⟨x, 14, none⟩ = some (.string o.v6) := by simp [World.cell?, P4.out, oc]
        have n16 : wr.cell? ⟨x, 16, none⟩ = some (.string o.sel) := by simp [World.cell?, P4.out, oc]
        have n17 : wr.cell? ⟨x, 17, none⟩ = some (.string o.about) := by simp [World.cell?, P4.out, oc]
        have n18 : wr.cell? ⟨x, 18, none⟩ = some (.string o.reason) := by simp [World.cell?, P4.out, oc]
        have m2 : ∀ V : World, Below w5.heap.size w5 V → V.cell? ⟨x, 2, none⟩ = some (.int .i64 o.uid) := fun V hV => by
          have := (hV.block x (Array.getElem?_eq_some_iff.1 p5).1).trans p5
          simp [World.cell?, this, oc]
        have m3 : ∀ V : World, Below w5.heap.size w5 V → V.cell? ⟨x, 3, none⟩ = some (.int .i64 o.version) := fun V hV => by
          have := (hV.block x (Array.getElem?_eq_some_iff.1 p5).1).trans p5
          simp [World.cell?, this, oc]
        have m5 : ∀ V : World, Below w5.heap.size w5 V → V.cell? ⟨x, 5, none⟩ = some (.slice f.A o.fins.length f.c) := fun V hV => by
          have := (hV.block x (Array.getElem?_eq_some_iff.1 p5).1).trans p5
          simp [World.cell?, this, oc]
        have m7 : ∀ V : World, Below w5.heap.size w5 V → V.cell? ⟨x, 7, none⟩ = some (.slice c.A o.cidrs.length c.c) := fun V hV => by
          have := (hV.block x (Array.getElem?_eq_some_iff.1 p5).1).trans p5
          simp [World.cell?, this, oc]
        have m12 : ∀ V : World, Below w5.heap.size w5 V → V.cell? ⟨x, 12, none⟩ = some (.slice i.A o.ips.length i.c) := fun V hV => by
          have := (hV.block x (Array.getElem?_eq_some_iff.1 p5).1).trans p5
          simp [World.cell?, this, oc]
        have m11 : ∀ V : World, Below w5.heap.size w5 V → V.cell? ⟨x, 11, none⟩ = some (.slice p.A o.fams.length p.c) := fun V hV => by
          have := (hV.block x (Array.getElem?_eq_some_iff.1 p5).1).trans p5
          simp [World.cell?, this, oc]
        have m6 : ∀ V : World, Below w5.heap.size w5 V → V.cell? ⟨x, 6, none⟩ = some (.slice l.A o.labels.length l.c) := fun V hV => by
          have := (hV.block x (Array.getElem?_eq_some_iff.1 p5).1).trans p5
          simp [World.cell?, this, oc]
        clear b5 r7 p5 hw5 hkn
        go_upto_region 10 with (fail)
        rw [← HW5.out]
        clear n1 n8 n13 n14 n16 n17 n18
        cases h0 : inR o.uid 1099511627776
        · have H0 := Lib.hid h0
          clear h0
          go_wp2_with (first
                  | (go_at_call_of 51 (Value.int .i64 o.uid); refine (within_any o.uid 1099511627776 false H0.out _).mono ?_; rintro e v0 ⟨rfl, hv0⟩; have hv1 := hv0.symm; clear hv0; subst hv1))
          go_ret
          exact ⟨by rw [HSR.out]; unfold restB; rw [H0.out]; rfl, B5.out.trans (belowLe B5.out.size hb5)⟩
        have H0 := Lib.hid h0
        clear h0
        cases h1 : inR o.version 1099511627776
        · have H1 := Lib.hid h1
          clear h1
          go_wp2_with (first
                  | (go_at_call_of 51 (Value.int .i64 o.uid); refine (within_any o.uid 1099511627776 true H0.out _).mono ?_; rintro e v0 ⟨rfl, hv0⟩; have hv1 := hv0.symm; clear hv0; subst hv1)
                  | (go_at_call_of 51 (Value.int .i64 o.version); refine (within_any o.version 1099511627776 false H1.out _).mono ?_; rintro e v1 ⟨rfl, hv0⟩; have hv1 := hv0.symm; clear hv0; subst hv1))
          go_ret
          exact ⟨by rw [HSR.out]; unfold restB; rw [H0.out, H1.out]; rfl, B5.out.trans (belowLe B5.out.size hb5)⟩
        have H1 := Lib.hid h1
        clear h1
        cases h2 : textsB [o.name, o.status, o.v4, o.v6, o.sel, o.about, o.reason] 7
        · have H2 := Lib.hid h2
          clear h2
          go_wp2_with (first
                  | (go_at_call_of 51 (Value.int .i64 o.uid); refine (within_any o.uid 1099511627776 true H0.out _).mono ?_; rintro e v0 ⟨rfl, hv0⟩; have hv1 := hv0.symm; clear hv0; subst hv1)
                  | (go_at_call_of 51 (Value.int .i64 o.version); refine (within_any o.version 1099511627776 true H1.out _).mono ?_; rintro e v1 ⟨rfl, hv0⟩; have hv1 := hv0.symm; clear hv0; subst hv1)
                  | (go_at_call_of 52 (Value.slice (some ⟨wr.heap.size, 0, none⟩) 7 7); refine (textsI_any [o.name, o.status, o.v4, o.v6, o.sel, o.about, o.reason] _ 7 7 7 rfl 7 rfl (by simp) false H2.out w5 R7.out).mono ?_; rintro e w6 ⟨rfl, hb6⟩))
          go_ret
          exact ⟨by rw [HSR.out]; unfold restB; rw [H0.out, H1.out, H2.out]; rfl, B5.out.trans (belowLe B5.out.size hb6)⟩
        have H2 := Lib.hid h2
        clear h2
        cases h3 : textsB o.fins 4
        · have H3 := Lib.hid h3
          clear h3
          go_wp2_with (first
                  | (go_at_call_of 51 (Value.int .i64 o.uid); refine (within_any o.uid 1099511627776 true H0.out _).mono ?_; rintro e v0 ⟨rfl, hv0⟩; have hv1 := hv0.symm; clear hv0; subst hv1)
                  | (go_at_call_of 51 (Value.int .i64 o.version); refine (within_any o.version 1099511627776 true H1.out _).mono ?_; rintro e v1 ⟨rfl, hv0⟩; have hv1 := hv0.symm; clear hv0; subst hv1)
                  | (go_at_call_of 52 (Value.slice (some ⟨wr.heap.size, 0, none⟩) 7 7); refine (textsI_any [o.name, o.status, o.v4, o.v6, o.sel, o.about, o.reason] _ 7 7 7 rfl 7 rfl (by simp) true H2.out w5 R7.out).mono ?_; rintro e w6 ⟨rfl, hb6⟩)
                  | (go_at_call_of 52 (Value.slice f.A o.fins.length f.c); refine (textsI_any o.fins f.A f.c 4 4 rfl _ rfl HS.out.1 false H3.out w6 ((R5.out.below hb6).fr)).mono ?_; rintro e w7 ⟨rfl, hc7⟩; have hb7 := G.bthen hb6 hc7; clear hc7))
          go_ret
          exact ⟨by rw [HSR.out]; unfold restB; rw [H0.out, H1.out, H2.out, H3.out]; rfl, B5.out.trans (belowLe B5.out.size hb7)⟩
        have H3 := Lib.hid h3
        clear h3
        cases h4 : textsB o.cidrs 8
        · have H4 := Lib.hid h4
          clear h4
          go_wp2_with (first
                  | (go_at_call_of 51 (Value.int .i64 o.uid); refine (within_any o.uid 1099511627776 true H0.out _).mono ?_; rintro e v0 ⟨rfl, hv0⟩; have hv1 := hv0.symm; clear hv0; subst hv1)
                  | (go_at_call_of 51 (Value.int .i64 o.version); refine (within_any o.version 1099511627776 true H1.out _).mono ?_; rintro e v1 ⟨rfl, hv0⟩; have hv1 := hv0.symm; clear hv0; subst hv1)
                  | (go_at_call_of 52 (Value.slice (some ⟨wr.heap.size, 0, none⟩) 7 7); refine (textsI_any [o.name, o.status, o.v4, o.v6, o.sel, o.about, o.reason] _ 7 7 7 rfl 7 rfl (by simp) true H2.out w5 R7.out).mono ?_; rintro e w6 ⟨rfl, hb6⟩)
                  | (go_at_call_of 52 (Value.slice f.A o.fins.length f.c); refine (textsI_any o.fins f.A f.c 4 4 rfl _ rfl HS.out.1 true H3.out w6 ((R5.out.below hb6).fr)).mono ?_; rintro e w7 ⟨rfl, hc7⟩; have hb7 := G.bthen hb6 hc7; clear hc7)
                  | (go_at_call_of 52 (Value.slice c.A o.cidrs.length c.c); refine (textsI_any o.cidrs c.A c.c 8 8 rfl _ rfl HS.out.2.2.1 false H4.out w7 ((R5.out.below hb7).cr)).mono ?_; rintro e w8 ⟨rfl, hc8⟩; have hb8 := G.bthen hb7 hc8; clear hc8))
          go_ret
          exact ⟨by rw [HSR.out]; unfold restB; rw [H0.out, H1.out, H2.out, H3.out, H4.out]; rfl, B5.out.trans (belowLe B5.out.size hb8)⟩
        have H4 := Lib.hid h4
        clear h4
        cases h5 : textsB o.ips 8
        · have H5 := Lib.hid h5
          clear h5
          go_wp2_with (first
                  | (go_at_call_of 51 (Value.int .i64 o.uid); refine (within_any o.uid 1099511627776 true H0.out _).mono ?_; rintro e v0 ⟨rfl, hv0⟩; have hv1 := hv0.symm; clear hv0; subst hv1)
                  | (go_at_call_of 51 (Value.int .i64 o.version); refine (within_any o.version 1099511627776 true H1.out _).mono ?_; rintro e v1 ⟨rfl, hv0⟩; have hv1 := hv0.symm; clear hv0; subst hv1)
                  | (go_at_call_of 52 (Value.slice (some ⟨wr.heap.size, 0, none⟩) 7 7); refine (textsI_any [o.name, o.status, o.v4, o.v6, o.sel, o.about, o.reason] _ 7 7 7 rfl 7 rfl (by simp) true H2.out w5 R7.out).mono ?_; rintro e w6 ⟨rfl, hb6⟩)
                  | (go_at_call_of 52 (Value.slice f.A o.fins.length f.c); refine (textsI_any o.fins f.A f.c 4 4 rfl _ rfl HS.out.1 true H3.out w6 ((R5.out.below hb6).fr)).mono ?_; rintro e w7 ⟨rfl, hc7⟩; have hb7 := G.bthen hb6 hc7; clear hc7)
                  | (go_at_call_of 52 (Value.slice c.A o.cidrs.length c.c); refine (textsI_any o.cidrs c.A c.c 8 8 rfl _ rfl HS.out.2.2.1 true H4.out w7 ((R5.out.below hb7).cr)).mono ?_; rintro e w8 ⟨rfl, hc8⟩; have hb8 := G.bthen hb7 hc8; clear hc8)
                  | (go_at_call_of 52 (Value.slice i.A o.ips.length i.c); refine (textsI_any o.ips i.A i.c 8 8 rfl _ rfl HS.out.2.2.2.2 false H5.out w8 ((R5.out.below hb8).ir)).mono ?_; rintro e w9 ⟨rfl, hc9⟩; have hb9 := G.bthen hb8 hc9; clear hc9))
          go_ret
          exact ⟨by rw [HSR.out]; unfold restB; rw [H0.out, H1.out, H2.out, H3.out, H4.out, H5.out]; rfl, B5.out.trans (belowLe B5.out.size hb9)⟩
        have H5 := Lib.hid h5
        clear h5
        cases h6 : decide ((o.fams.length : Int) ≤ 8)
        · have H6 := Lib.hid h6
          go_wp2_with (first
                  | (go_at_call_of 51 (Value.int .i64 o.uid); refine (within_any o.uid 1099511627776 true H0.out _).mono ?_; rintro e v0 ⟨rfl, hv0⟩; have hv1 := hv0.symm; clear hv0; subst hv1)
                  | (go_at_call_of 51 (Value.int .i64 o.version); refine (within_any o.version 1099511627776 true H1.out _).mono ?_; rintro e v1 ⟨rfl, hv0⟩; have hv1 := hv0.symm; clear hv0; subst hv1)
                  | (go_at_call_of 52 (Value.slice (some ⟨wr.heap.size, 0, none⟩) 7 7); refine (textsI_any [o.name, o.status, o.v4, o.v6, o.sel, o.about, o.reason] _ 7 7 7 rfl 7 rfl (by simp) true H2.out w5 R7.out).mono ?_; rintro e w6 ⟨rfl, hb6⟩)
                  | (go_at_call_of 52 (Value.slice f.A o.fins.length f.c); refine (textsI_any o.fins f.A f.c 4 4 rfl _ rfl HS.out.1 true H3.out w6 ((R5.out.below hb6).fr)).mono ?_; rintro e w7 ⟨rfl, hc7⟩; have hb7 := G.bthen hb6 hc7; clear hc7)
                  | (go_at_call_of 52 (Value.slice c.A o.cidrs.length c.c); refine (textsI_any o.cidrs c.A c.c 8 8 rfl _ rfl HS.out.2.2.1 true H4.out w7 ((R5.out.below hb7).cr)).mono ?_; rintro e w8 ⟨rfl, hc8⟩; have hb8 := G.bthen hb7 hc8; clear hc8)
                  | (go_at_call_of 52 (Value.slice i.A o.ips.length i.c); refine (textsI_any o.ips i.A i.c 8 8 rfl _ rfl HS.out.2.2.2.2 true H5.out w8 ((R5.out.below hb8).ir)).mono ?_; rintro e w9 ⟨rfl, hc9⟩; have hb9 := G.bthen hb8 hc9; clear hc9))
          go_ret
          exact ⟨by rw [HSR.out]; unfold restB; rw [H0.out, H1.out, H2.out, H3.out, H4.out, H5.out, H6.out]; rfl, B5.out.trans (belowLe B5.out.size hb9)⟩
        have H6 := Lib.hid h6
        cases h7 : labelsB o.labels
        · have H7 := Lib.hid h7
          clear h7
          go_wp2_with (first
                  | (go_at_call_of 51 (Value.int .i64 o.uid); refine (within_any o.uid 1099511627776 true H0.out _).mono ?_; rintro e v0 ⟨rfl, hv0⟩; have hv1 := hv0.symm; clear hv0; subst hv1)
                  | (go_at_call_of 51 (Value.int .i64 o.version); refine (within_any o.version 1099511627776 true H1.out _).mono ?_; rintro e v1 ⟨rfl, hv0⟩; have hv1 := hv0.symm; clear hv0; subst hv1)
                  | (go_at_call_of 52 (Value.slice (some ⟨wr.heap.size, 0, none⟩) 7 7); refine (textsI_any [o.name, o.status, o.v4, o.v6, o.sel, o.about, o.reason] _ 7 7 7 rfl 7 rfl (by simp) true H2.out w5 R7.out).mono ?_; rintro e w6 ⟨rfl, hb6⟩)
                  | (go_at_call_of 52 (Value.slice f.A o.fins.length f.c); refine (textsI_any o.fins f.A f.c 4 4 rfl _ rfl HS.out.1 true H3.out w6 ((R5.out.below hb6).fr)).mono ?_; rintro e w7 ⟨rfl, hc7⟩; have hb7 := G.bthen hb6 hc7; clear hc7)
                  | (go_at_call_of 52 (Value.slice c.A o.cidrs.length c.c); refine (textsI_any o.cidrs c.A c.c 8 8 rfl _ rfl HS.out.2.2.1 true H4.out w7 ((R5.out.below hb7).cr)).mono ?_; rintro e w8 ⟨rfl, hc8⟩; have hb8 := G.bthen hb7 hc8; clear hc8)
                  | (go_at_call_of 52 (Value.slice i.A o.ips.length i.c); refine (textsI_any o.ips i.A i.c 8 8 rfl _ rfl HS.out.2.2.2.2 true H5.out w8 ((R5.out.below hb8).ir)).mono ?_; rintro e w9 ⟨rfl, hc9⟩; have hb9 := G.bthen hb8 hc9; clear hc9)
                  | (go_at_call 53; refine (labels_any o.labels l.A l.c HS.out.2.1 false H7.out w9 ((R5.out.below hb9).lr)).mono ?_; rintro e w10 ⟨rfl, hc10⟩; have hb10 := G.bthen hb9 hc10; clear hc10))
          go_ret
          exact ⟨by rw [HSR.out]; unfold restB; rw [H0.out, H1.out, H2.out, H3.out, H4.out, H5.out, H6.out, H7.out]; rfl, B5.out.trans (belowLe B5.out.size hb10)⟩
        have H7 := Lib.hid h7
        clear h7
        go_wp2_with (first
                | (go_at_call_of 51 (Value.int .i64 o.uid); refine (within_any o.uid 1099511627776 true H0.out _).mono ?_; rintro e v0 ⟨rfl, hv0⟩; have hv1 := hv0.symm; clear hv0; subst hv1)
                | (go_at_call_of 51 (Value.int .i64 o.version); refine (within_any o.version 1099511627776 true H1.out _).mono ?_; rintro e v1 ⟨rfl, hv0⟩; have hv1 := hv0.symm; clear hv0; subst hv1)
                | (go_at_call_of 52 (Value.slice (some ⟨wr.heap.size, 0, none⟩) 7 7); refine (textsI_any [o.name, o.status, o.v4, o.v6, o.sel, o.about, o.reason] _ 7 7 7 rfl 7 rfl (by simp) true H2.out w5 R7.out).mono ?_; rintro e w6 ⟨rfl, hb6⟩)
                | (go_at_call_of 52 (Value.slice f.A o.fins.length f.c); refine (textsI_any o.fins f.A f.c 4 4 rfl _ rfl HS.out.1 true H3.out w6 ((R5.out.below hb6).fr)).mono ?_; rintro e w7 ⟨rfl, hc7⟩; have hb7 := G.bthen hb6 hc7; clear hc7)
                | (go_at_call_of 52 (Value.slice c.A o.cidrs.length c.c); refine (textsI_any o.cidrs c.A c.c 8 8 rfl _ rfl HS.out.2.2.1 true H4.out w7 ((R5.out.below hb7).cr)).mono ?_; rintro e w8 ⟨rfl, hc8⟩; have hb8 := G.bthen hb7 hc8; clear hc8)
                | (go_at_call_of 52 (Value.slice i.A o.ips.length i.c); refine (textsI_any o.ips i.A i.c 8 8 rfl _ rfl HS.out.2.2.2.2 true H5.out w8 ((R5.out.below hb8).ir)).mono ?_; rintro e w9 ⟨rfl, hc9⟩; have hb9 := G.bthen hb8 hc9; clear hc9)
                | (go_at_call 53; refine (labels_any o.labels l.A l.c HS.out.2.1 true H7.out w9 ((R5.out.below hb9).lr)).mono ?_; rintro e w10 ⟨rfl, hc10⟩; have hb10 := G.bthen hb9 hc10; clear hc10))
        go_ret
        exact ⟨by rw [HSR.out]; unfold restB; rw [H0.out, H1.out, H2.out, H3.out, H4.out, H5.out, H6.out, H7.out]; rfl, B5.out.trans (belowLe B5.out.size hb10)⟩
end Go.Proofs.Ytolndeolehkjoaa
