/- The reference's disk: Put. -/
import Derived.Test.YtdmjbdecemajpaaDf1
namespace Go.Proofs.Ytdmjbdecemajpaa.D
set_option linter.unusedVariables false
set_option linter.unusedSimpArgs false
open Go.RowKit
theorem app_row {P : Program} {ops : Array Oper} {rest : List Oper} {o : Oper} {a : Act} {Q : Exit → Act → World → Prop} {w : World} (hgd : o.guard = none) (s x : Operand) (t e : TypeId)
    (ho : o.op = .call { callee := .builtin .append, args := #[s, x], argTypes := #[t, t] })
    (base size bytes : Nat) (z : Value) (ht : P.underlying t = some (.slice e)) (hinfo : (P.info? e).map (fun i => (i.zero, i.size, i.bytes)) = some (some z, size, bytes)) (hzs : z.cells.size = size) (hsz : 0 < size)
    (v : Value) (n : Nat) (xs : List Value) (hs : a.eval s = v) (HO : w.ownsRow base e size v n xs)
    (ad : Addr) (m c : Nat) (news : List Value) (hx : a.eval x = .slice (some ad) m c) (hl : news.length = m * size) (hnews : ∀ j u, news[j]? = some u → w.cell? (ad.add j) = some u) (h1 : ∀ u ∈ news, u.oneCell' = true)
    (h63 : n + m ≤ maxLen) (hbytes : (n + m) * bytes ≤ 140737488355328) (hbase : base ≤ w.heap.size)
    (h : ∀ v' w', w'.ownsRow base e size v' (n + m) (xs ++ news) → w.grownBy w' v.ownBlock → (v' = .slice none 0 0 ↔ v = .slice none 0 0 ∧ m = 0) → wpList P ops Q rest (a.put o.dst v') w') : wpList P ops Q (o :: rest) a w := by
  obtain ⟨i0, hi, hzz⟩ := Option.map_eq_some_iff.1 hinfo
  simp only [Prod.mk.injEq] at hzz
  obtain ⟨hz0, hz1, hz2⟩ := hzz
  exact wpList_append_own w hgd s x t ho base e i0 z size bytes ht hi hz0 hz1 hz2 hzs hsz v n xs hs HO ad m c news hx hl hnews h1 h63 hbytes hbase h
theorem owns_shape {w : World} {B e size n : Nat} {v : Value} {xs : List Value} (h : w.ownsRow B e size v n xs) : ∃ A c, v = .slice A n c := by
  obtain ⟨_, ⟨rfl, rfl⟩ | ⟨g, c, _, rfl, _⟩⟩ := h
  · exact ⟨none, 0, rfl⟩
  · exact ⟨_, c, rfl⟩
theorem owns_cells {w : World} {B e size n c g : Nat} {xs : List Value} (h : w.ownsRow B e size (.slice (some ⟨g, 0, none⟩) n c) n xs) : n ≤ c ∧ c ≤ maxLen ∧ ∀ j u, xs[j]? = some u → w.cell? ⟨g, j, none⟩ = some u := by
  have hx := G.HasRow.of_owns h
  obtain ⟨hl, ⟨h0, _⟩ | ⟨g', cap, cur, hv, h1, h2, h3, h4, h5, h6⟩⟩ := h
  · cases h0
  · cases hv
    obtain ⟨_, A, c, hv, _, _, hc⟩ := hx
    cases hv
    refine ⟨h3, h4, fun j u hj => ?_⟩
    obtain ⟨ad, ha, hcell⟩ := hc j u hj
    cases ha
    rw [G.add_plain, Nat.zero_add] at hcell
    exact hcell
theorem info57 : (Try.prog.info? 57).map (fun i => (i.zero, i.size, i.bytes)) = some (some (.agg #[.int .i64 0, .string ByteArray.empty, .string ByteArray.empty]), 3, 40) := by kernel_rfl
theorem size57 : (Try.prog.info? 57).map (·.size) = some 3 := by kernel_rfl
theorem rfc_one (r : RF) : ∀ u ∈ rfc r, u.oneCell' = true := by
  intro u hu; simp only [rfc, List.mem_cons, List.not_mem_nil, or_false] at hu
  rcases hu with rfl | rfl | rfl <;> rfl
theorem rfs_len (l : List RF) : (l.flatMap rfc).length = l.length * 3 := len3 rfc (fun _ => rfl) l
theorem rfs_all (l : List RF) : ∀ u ∈ l.flatMap rfc, u.oneCell' = true := by
  intro u hu
  obtain ⟨x, _, hx⟩ := List.mem_flatMap.1 hu
  exact rfc_one x u hx
theorem rf_take (l : List RF) (k j : Nat) (u : Value) (h : ((l.take k).flatMap rfc)[j]? = some u) : (l.flatMap rfc)[j]? = some u := by
  have e : l.flatMap rfc = (l.take k).flatMap rfc ++ (l.drop k).flatMap rfc := by rw [← List.flatMap_append, List.take_append_drop]
  have hj : j < ((l.take k).flatMap rfc).length := by
    rcases Nat.lt_or_ge j ((l.take k).flatMap rfc).length with h1 | h1
    · exact h1
    · rw [List.getElem?_eq_none h1] at h; cases h
  rw [e, List.getElem?_append_left hj]; exact h
theorem rf_drop (l : List RF) (k j : Nat) (u : Value) (hk : k ≤ l.length) (h : ((l.drop k).flatMap rfc)[j]? = some u) : (l.flatMap rfc)[k * 3 + j]? = some u := by
  have e : l.flatMap rfc = (l.take k).flatMap rfc ++ (l.drop k).flatMap rfc := by rw [← List.flatMap_append, List.take_append_drop]
  have hl : ((l.take k).flatMap rfc).length = k * 3 := by rw [rfs_len, List.length_take]; omega
  rw [e, List.getElem?_append_right (by omega), hl, show k * 3 + j - k * 3 = j by omega]; exact h
theorem slice37_to (A : Option Addr) (n c k : Nat) (hk : k ≤ c) (W : World) : (Instr.slice 37 (.slice A n c) none (some (.int .i64 k)) none).run Try.prog W = .ok (.slice A k c) W := by
  have : (k : Int) ≤ c := by omega
  have ha : A.map (·.add (0 * 1)) = A := by cases A <;> simp [Addr.add]
  simp [Instr.slice, Instr.sliceBounds, Instr.sliceBound, asIntOf, go_sem, this]
  intro hh; omega
theorem slice37_from (g n c k : Nat) (hk : k ≤ n) (hc : n ≤ c) : ∃ ad, (∀ W : World, (Instr.slice 37 (.slice (some ⟨g, 0, none⟩) n c) (some (.int .i64 (k : Int))) none none).run Try.prog W = .ok (.slice (some ad) (n - k) (c - k)) W) ∧ (k < n → ad = ⟨g, k * 3, none⟩) := by
  refine ⟨if c = k then ⟨g, 0, none⟩ else ⟨g, k * 3, none⟩, fun W => ?_, fun h => ?_⟩
  · have h2 : (k : Int) ≤ n := by omega
    simp [Instr.slice, Instr.sliceBounds, Instr.sliceBound, asIntOf, go_sem, h2, hk, G.add_plain]
    split <;> rfl
  · rw [if_neg (by omega)]
/-- the place of a number in the row -/
structure IsIns (l : List RF) (no : Int) (i : Nat) : Prop where
  le : i ≤ l.length
  lo : ∀ j (hj : j < l.length), j < i → l[j].no < no
  hi : ∀ (h : i < l.length), ¬ l[i].no < no
theorem take_succ_rfc (l : List RF) (k : Nat) (h : k < l.length) : (l.take (k + 1)).flatMap rfc = (l.take k).flatMap rfc ++ rfc l[k] := by
  rw [List.take_succ_eq_append_getElem h, List.flatMap_append]; simp
set_option maxRecDepth 100000 in
set_option maxHeartbeats 4000000 in
theorem put_any (B rb : Nat) (s : RS) (v : Value) (f : RF) (w : World) (h : RInv B rb s v w) (hl : s.fs.length ≤ 1000000) :
    Calls Try.prog 26 #[.pointer (some ⟨rb, 0, none⟩), .agg #[.int .i64 f.no, .string f.safe, .string f.tail]] w fun e w' => e = .returned (.tuple #[]) ∧ ∃ i, IsIns s.fs f.no i ∧ RStep B rb v w ⟨s.fs.take i ++ f :: s.fs.drop i, s.steps⟩ w' := by
  obtain ⟨W, hW⟩ : ∃ W, W = w.alloc (.cells #[.int .i64 f.no, .string f.safe, .string f.tail] 57) := ⟨_, rfl⟩
  have hbW : Below w.heap.size w W := by rw [hW]; exact bel_allocT _ _
  have hI := h.below hbW
  obtain ⟨hn, A, c, hv, hc⟩ := row3 (f := rfc) (fun _ => rfl) hI.row
  obtain ⟨n, hn'⟩ : ∃ n, n = s.fs.length := ⟨_, rfl⟩
  rw [← hn'] at hv hl
  have c0 := hI.c0
  rw [hv] at c0
  have hlt := hI.lt
  have hx : W.heap[w.heap.size]? = some (.cells #[.int .i64 f.no, .string f.safe, .string f.tail] 57 (0, 0)) := by rw [hW]; exact G.heap_new _ _
  have b0 : W.cell? ⟨w.heap.size, 0, none⟩ = some (.int .i64 f.no) := by simp [World.cell?, hx]
  have b1 : W.cell? ⟨w.heap.size, 1, none⟩ = some (.string f.safe) := by simp [World.cell?, hx]
  have b2 : W.cell? ⟨w.heap.size, 2, none⟩ = some (.string f.tail) := by simp [World.cell?, hx]
  have hWs : W.heap.size = w.heap.size + 1 := by rw [hW]; simp
  have hst : (W.alloc (.cells #[] 57)).ownsRow W.heap.size 57 3 (.slice (some ⟨w.heap.size + 1, 0, none⟩) 0 0) 0 [] := ⟨rfl, .inr ⟨W.heap.size, 0, #[], by rw [hWs], Nat.le_refl _, G.heap_new _ _, Nat.le_refl _, by decide, rfl, rfl⟩⟩
  have hst2 : Below W.heap.size W (W.alloc (.cells #[] 57)) := bel_allocT _ _
  have hnil : (A = none ∧ n = 0 ∧ c = 0) ∨ ∃ g, A = some ⟨g, 0, none⟩ := by
    rcases hI.row.2 with ⟨q1, q2⟩ | ⟨g, _, _, q1, _⟩
    · rw [hv] at q1; cases q1; exact .inl ⟨rfl, rfl, rfl⟩
    · rw [hv] at q1; cases q1; exact .inr ⟨g, rfl⟩
  have hrow : ∀ g, A = some ⟨g, 0, none⟩ → (n ≤ c ∧ c ≤ maxLen) ∧ ∀ j u, (s.fs.flatMap rfc)[j]? = some u → W.cell? ⟨g, j, none⟩ = some u := fun g hg => by
    have := hI.row
    rw [hv, hg, ← hn'] at this
    obtain ⟨q1, q2, q3⟩ := owns_cells this
    exact ⟨⟨q1, q2⟩, q3⟩
  have HNil := Lib.hid hnil
  have HRw := Lib.hid hrow
  have HVv := Lib.hid hv
  have HN := Lib.hid hn'
  have HC := Lib.hid hc
  have HI := Lib.hid hI
  have HW := Lib.hid hW
  have HBW := Lib.hid hbW
  have H1 := Lib.hid hst
  have H2 := Lib.hid hst2
  have B0 := Lib.hid b0
  have B1 := Lib.hid b1
  have B2 := Lib.hid b2
  rw [hW] at c0 b0 hlt
  clear hW hbW hI hn hc hv h hn' hst hst2 hWs hx b1 b2 hnil hrow
  go_enter Try.func26, Try.ntmps26
  go_wp2
  go_loopw [4, 5] (fun u i wr => ∃ k : Nat, k ≤ n ∧ i = .int .i64 k ∧ Hid (Below W.heap.size W wr) ∧ Hid (wr.ownsRow W.heap.size 57 3 u k ((s.fs.take k).flatMap rfc)) ∧ Hid (∀ j (hj : j < s.fs.length), j < k → s.fs[j].no < f.no)) (fun _ i _ => n - (intOf i).toNat)
  case atStart => exact ⟨0, by omega, by go_num, Lib.hid (by rw [← HW.out]; exact H2.out), Lib.hid (by rw [← HW.out]; exact H1.out), Lib.hid (by intro j _ h; omega)⟩
  case round =>
    obtain ⟨k, hk, rfl, HB, HO, HLo⟩ := hrel
    have d0 := G.cell_below HB.out HI.out.c0
    rw [HVv.out] at d0
    have y0 := G.cell_below HB.out B0.out
    have y1 := G.cell_below HB.out B1.out
    have y2 := G.cell_below HB.out B2.out
    have hlt2 : rb < wr.heap.size := Nat.lt_of_lt_of_le HI.out.lt HB.out.size
    by_cases hkn : k < n
    · have hka : k < s.fs.length := by have := HN.out; omega
      obtain ⟨g, hg, hcell⟩ := HC.out k hka
      subst hg
      have e0 := hcell wr HB.out 0 (by decide)
      have e1 := hcell wr HB.out 1 (by decide)
      have e2 := hcell wr HB.out 2 (by decide)
      have hstep := take_succ_rfc s.fs k hka
      obtain ⟨x, hx⟩ : ∃ x, x = s.fs[k] := ⟨_, rfl⟩
      rw [← hx] at e0 e1 e2 hstep
      replace e0 : wr.cell? ⟨g, k * 3, none⟩ = some (.int .i64 x.no) := e0
      replace e1 : wr.cell? ⟨g, k * 3 + 1, none⟩ = some (.string x.safe) := e1
      replace e2 : wr.cell? ⟨g, k * 3 + 2, none⟩ = some (.string x.tail) := e2
      have Hst := Lib.hid hstep
      have Hx := Lib.hid hx
      clear hx hcell hstep
      by_cases he : x.no < f.no
      · have he' : decide (x.no < f.no) = true := decide_eq_true he
        have HLo2 : Hid (∀ j (hj : j < s.fs.length), j < k + 1 → s.fs[j].no < f.no) := Lib.hid (fun j hj h1 => by
          rcases Nat.lt_or_ge j k with h2 | h2
          · exact HLo.out j hj h2
          · obtain rfl : j = k := by omega
            rw [← Hx.out]; exact he)
        clear he
        go_wp2
        go_quiet (fail)
        have hO2 := owns_kept (w1 := wr.drewN nq) HO.out (fun _ _ => rfl)
        have hB2 : Below W.heap.size W (wr.drewN nq) := G.bdrewN HB.out _
        obtain ⟨w3, hw3⟩ : ∃ w3, w3 = wr.drewN nq := ⟨_, rfl⟩
        have f0 : w3.cell? ⟨g, k * 3, none⟩ = some (.int .i64 x.no) := by rw [hw3]; exact e0
        have f1 : w3.cell? ⟨g, k * 3 + 1, none⟩ = some (.string x.safe) := by rw [hw3]; exact e1
        have f2 : w3.cell? ⟨g, k * 3 + 2, none⟩ = some (.string x.tail) := by rw [hw3]; exact e2
        have f7 : w3.cell? ⟨rb, 0, none⟩ = some (.slice (some ⟨g, 0, none⟩) n c) := by rw [hw3]; exact d0
        rw [← hw3] at hO2 hB2
        rw [← hw3]
        have HO2 := Lib.hid hO2
        have HB2 := Lib.hid hB2
        clear hO2 hB2 hw3 e0 e1 e2 y0 y1 y2 d0
        go_wp2_with (at_builtin; refine G.app_one rfl _ _ 37 57 rfl W.heap.size 3 40 _ Try.underlying37 info57 rfl (by decide) u4 k ((s.fs.take k).flatMap rfc) (rfc x) rfl rfl rfl (rfc_one x) HO2.out HB2.out.size (by unfold maxLen; omega) (by omega) ?_; intro v1 w4 hown4 hg4; have Ho4 := Lib.hid hown4; have Hg4 := Lib.hid hg4; clear hown4 hg4)
        go_roundw
        case rel =>
          refine ⟨k + 1, by omega, by go_num, Lib.hid ?_, Lib.hid ?_, HLo2⟩
          · exact G.below_grown HB2.out HB2.out.size HO2.out Hg4.out
          · rw [Hst.out]; exact Ho4.out
        case measure => simp [intOf]; omega
      · have he' : decide (x.no < f.no) = false := decide_eq_false he
        have HNC := Lib.hid (HRw.out g rfl).1
        have HRow := Lib.hid (HRw.out g rfl).2
        have HIns : Hid (IsIns s.fs f.no k) := Lib.hid ⟨by have := HN.out; omega, HLo.out, fun _ => by rw [← Hx.out]; exact he⟩
        clear he
        go_wp2
        go_quiet (fail)
        have hO2 := owns_kept (w1 := wr.drewN nq) HO.out (fun _ _ => rfl)
        have hB2 : Below W.heap.size W (wr.drewN nq) := G.bdrewN HB.out _
        obtain ⟨w3, hw3⟩ : ∃ w3, w3 = wr.drewN nq := ⟨_, rfl⟩
        rw [← hw3] at hO2 hB2
        rw [← hw3]
        have HO2 := Lib.hid hO2
        have HB2 := Lib.hid hB2
        clear hO2 hB2 hw3 e0 e1 e2 y0 y1 y2 d0
        have z0 := G.cell_below HB2.out B0.out
        have z1 := G.cell_below HB2.out B1.out
        have z2 := G.cell_below HB2.out B2.out
        go_upto_region 7 with (at_builtin; refine G.app_one rfl _ _ 37 57 rfl W.heap.size 3 40 _ Try.underlying37 info57 rfl (by decide) u4 k ((s.fs.take k).flatMap rfc) (rfc f) rfl rfl rfl (rfc_one f) HO2.out HB2.out.size (by unfold maxLen; omega) (by omega) ?_; intro v1 w4 hown4 hg4)
        have hb4 := G.below_grown HB2.out HB2.out.size HO2.out hg4
        obtain ⟨A4, c4, rfl⟩ := owns_shape hown4
        have HO4 := Lib.hid hown4
        have HB4 := Lib.hid hb4
        have h4s : W.heap.size ≤ w4.heap.size := hb4.size
        have d4 := G.cell_below HB4.out HI.out.c0
        rw [HVv.out] at d4
        have hlt4 : rb < w4.heap.size := Nat.lt_of_lt_of_le HI.out.lt h4s
        clear hown4 hg4 hb4 z0 z1 z2
        obtain ⟨ad, hsl, had⟩ := slice37_from g n c k (by omega) HNC.out.1
        have HAD := Lib.hid had
        have HN2 : Hid (∀ j u, ((s.fs.drop k).flatMap rfc)[j]? = some u → w4.cell? (ad.add j) = some u) := Lib.hid (fun j u h => by
          have hlt : k < n := by
            rcases Nat.lt_or_ge k n with h1 | h1
            · exact h1
            · rw [List.drop_eq_nil_of_le (by have := HN.out; omega)] at h; simp at h
          rw [HAD.out hlt, G.add_plain]
          exact G.cell_below HB4.out (HRow.out _ u (rf_drop _ _ _ _ (by have := HN.out; omega) h)))
        have HL2 : Hid (((s.fs.drop k).flatMap rfc).length = (n - k) * 3) := Lib.hid (by rw [rfs_len, List.length_drop]; have := HN.out; omega)
        have y6 : w4.frozen? ⟨rb, 0, none⟩ = false := (HI.out.below HB4.out).free 0
        clear had
        go_wp2_with (at_builtin; refine app_row rfl (.tmp 44) (.tmp 50) 37 57 rfl W.heap.size 3 40 _ Try.underlying37 info57 rfl (by decide) (.slice A4 (k + 1) c4) (k + 1) _ rfl HO4.out ad (n - k) (c - k) ((s.fs.drop k).flatMap rfc) rfl HL2.out HN2.out (rfs_all _) (by unfold maxLen; omega) (by omega) h4s ?_; intro v6 w6 hown6 hg6 hz6; have hbw6 := G.below_grown HB4.out h4s HO4.out hg6; obtain ⟨A6, c6, rfl⟩ := owns_shape hown6; have HO6 := Lib.hid hown6; have HB6 := Lib.hid hbw6; have f6' := (HI.out.below hbw6).free 0; have d6' := G.cell_below hbw6 HI.out.c0; rw [HVv.out] at d6'; have hrl6 : rb < w6.heap.size := Nat.lt_of_lt_of_le hlt4 hg6.size; clear hown6 hg6 hz6 hbw6)
        refine bodyPost_end (results_none rfl _ _ _) rfl ⟨rfl, k, HIns.out, ?_⟩
        refine RStep.from' (Fr.of_below HBW.out) (HI.out.set _ _ (k + 1 + (n - k)) HB6.out ?_ ?_)
        · have := HO6.out
          rw [List.append_assoc] at this
          rw [List.flatMap_append, List.flatMap_cons]
          exact this
        · rw [List.length_append, List.length_cons, List.length_take, List.length_drop]
          have := HN.out
          omega
    · have hkn2 : k = n := by omega
      have HIns : Hid (IsIns s.fs f.no k) := Lib.hid ⟨by have := HN.out; omega, HLo.out, fun h => by have := HN.out; omega⟩
      subst hkn2
      go_wp2
      go_quiet (fail)
      have hO2 := owns_kept (w1 := wr.drewN nq) HO.out (fun _ _ => rfl)
      have hB2 : Below W.heap.size W (wr.drewN nq) := G.bdrewN HB.out _
      obtain ⟨w3, hw3⟩ : ∃ w3, w3 = wr.drewN nq := ⟨_, rfl⟩
      rw [← hw3] at hO2 hB2
      rw [← hw3]
      have HO2 := Lib.hid hO2
      have HB2 := Lib.hid hB2
      clear hO2 hB2 hw3 y0 y1 y2 d0
      have z0 := G.cell_below HB2.out B0.out
      have z1 := G.cell_below HB2.out B1.out
      have z2 := G.cell_below HB2.out B2.out
      go_upto_region 7 with (at_builtin; refine G.app_one rfl _ _ 37 57 rfl W.heap.size 3 40 _ Try.underlying37 info57 rfl (by decide) u4 k ((s.fs.take k).flatMap rfc) (rfc f) rfl rfl rfl (rfc_one f) HO2.out HB2.out.size (by unfold maxLen; omega) (by omega) ?_; intro v1 w4 hown4 hg4)
      have hb4 := G.below_grown HB2.out HB2.out.size HO2.out hg4
      obtain ⟨A4, c4, rfl⟩ := owns_shape hown4
      have HO4 := Lib.hid hown4
      have HB4 := Lib.hid hb4
      have h4s : W.heap.size ≤ w4.heap.size := hb4.size
      have d4 := G.cell_below HB4.out HI.out.c0
      rw [HVv.out] at d4
      have hlt4 : rb < w4.heap.size := Nat.lt_of_lt_of_le HI.out.lt h4s
      clear hown4 hg4 hb4 z0 z1 z2
      rcases HNil.out with ⟨e1, e2, e3⟩ | ⟨g, e1⟩
      · subst e1 e2 e3
        have hsl : ∀ W : World, (Instr.slice 37 (.slice none 0 0) (some (.int .i64 0)) none none).run Try.prog W = .ok (.slice none 0 0) W := fun W => by
          simp [Instr.slice, Instr.sliceBounds, Instr.sliceBound, asIntOf, go_sem]
        obtain ⟨g4, rfl⟩ : ∃ g4, A4 = some ⟨g4, 0, none⟩ := by
          rcases HO4.out.2 with ⟨_, h1⟩ | ⟨g4, _, _, h1, _⟩
          · cases h1
          · cases h1; exact ⟨g4, rfl⟩
        have h14 : 1 ≤ c4 := (owns_cells HO4.out).1
        have y6 : w4.frozen? ⟨rb, 0, none⟩ = false := (HI.out.below HB4.out).free 0
        go_wp2
        refine bodyPost_end (results_none rfl _ _ _) rfl ⟨rfl, 0, HIns.out, ?_⟩
        refine RStep.from' (Fr.of_below HBW.out) (HI.out.set _ _ (0 + 1) HB4.out ?_ ?_)
        · have e : s.fs = [] := List.length_eq_zero_iff.1 HN.out.symm
          have := HO4.out
          rw [e] at this ⊢
          exact this
        · have e : s.fs = [] := List.length_eq_zero_iff.1 HN.out.symm
          rw [e]; rfl
      · subst e1
        have HNC := Lib.hid (HRw.out g rfl).1
        have HRow := Lib.hid (HRw.out g rfl).2
        obtain ⟨ad, hsl, had⟩ := slice37_from g k c k (by omega) HNC.out.1
        rw [Nat.sub_self] at hsl
        have HAD := Lib.hid had
        have HN2 : Hid (∀ j u, ((s.fs.drop k).flatMap rfc)[j]? = some u → w4.cell? (ad.add j) = some u) := Lib.hid (fun j u h => by
          have hlt : k < k := by
            rcases Nat.lt_or_ge k k with h1 | h1
            · exact h1
            · rw [List.drop_eq_nil_of_le (by have := HN.out; omega)] at h; simp at h
          rw [HAD.out hlt, G.add_plain]
          exact G.cell_below HB4.out (HRow.out _ u (rf_drop _ _ _ _ (by have := HN.out; omega) h)))
        have HL2 : Hid (((s.fs.drop k).flatMap rfc).length = 0 * 3) := Lib.hid (by rw [rfs_len, List.length_drop]; have := HN.out; omega)
        have y6 : w4.frozen? ⟨rb, 0, none⟩ = false := (HI.out.below HB4.out).free 0
        clear had
        go_wp2_with (at_builtin; refine app_row rfl (.tmp 44) (.tmp 50) 37 57 rfl W.heap.size 3 40 _ Try.underlying37 info57 rfl (by decide) (.slice A4 (k + 1) c4) (k + 1) _ rfl HO4.out ad 0 (c - k) ((s.fs.drop k).flatMap rfc) rfl HL2.out HN2.out (rfs_all _) (by unfold maxLen; omega) (by omega) h4s ?_; intro v6 w6 hown6 hg6 hz6; have hbw6 := G.below_grown HB4.out h4s HO4.out hg6; obtain ⟨A6, c6, rfl⟩ := owns_shape hown6; have HO6 := Lib.hid hown6; have HB6 := Lib.hid hbw6; have f6' := (HI.out.below hbw6).free 0; have d6' := G.cell_below hbw6 HI.out.c0; rw [HVv.out] at d6'; have hrl6 : rb < w6.heap.size := Nat.lt_of_lt_of_le hlt4 hg6.size; clear hown6 hg6 hz6 hbw6)
        refine bodyPost_end (results_none rfl _ _ _) rfl ⟨rfl, k, HIns.out, ?_⟩
        refine RStep.from' (Fr.of_below HBW.out) (HI.out.set _ _ (k + 1 + 0) HB6.out ?_ ?_)
        · have := HO6.out
          rw [List.append_assoc] at this
          rw [List.flatMap_append, List.flatMap_cons]
          exact this
        · rw [List.length_append, List.length_cons, List.length_take, List.length_drop]
          have := HN.out
          omega
end Go.Proofs.Ytdmjbdecemajpaa.D
