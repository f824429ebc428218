/- The newest generation, and its segments. -/
import Derived.Test.YtdmjbdecemajpaaDoorWk1
import Derived.Laws.OwnMore
namespace Go.Proofs.YtdmjbdecemajpaaDoor.D
set_option linter.unusedVariables false
set_option linter.unusedSimpArgs false
open Go.RowKit
set_option maxRecDepth 100000 in
set_option maxHeartbeats 400000 in
theorem scan_own (s : ByteArray) (hs : s.size ≤ 100000) (w : World) (hT : Hid (TabOf w)) :
    Calls Tryd.prog 24 #[.string s] w fun e w' => ∃ v, e = .returned (.tuple #[v, .int .i64 (scan s).2]) ∧ w'.ownsRow w.heap.size 9 1 v (scan s).1.length (strs (scan s).1) ∧ Below w.heap.size w w' := by
  go_enter Tryd.func24, Tryd.ntmps24
  go_wp2
  go_loopw [4, 5] (fun v i wr => ∃ (ls : List ByteArray) (k : Nat), i = .int .i64 k ∧ wr.ownsRow w.heap.size 9 1 v ls.length (strs ls) ∧ Below w.heap.size w wr ∧ Hid (Scanned s ls k)) (fun _ i _ => s.size - (intOf i).toNat)
  case atStart => exact ⟨[], 0, rfl, G.owns_nil _ _ _ _, Below.refl _ _, Lib.hid (Scanned.start s)⟩
  case round =>
    obtain ⟨ls, k, rfl, hown, hb, H⟩ := hrel
    obtain ⟨hk, hlk, _⟩ := H.out
    have hT1 : Hid (TabOf wr) := Lib.hid (TabOf.below hT.out hb)
    have hz : (s.extract k s.size).size ≤ 140737488351232 := by rw [ex_size] <;> omega
    by_cases ho : fOk (fromAt s k) = true
    · have c := fun W hT => first_yes (fromAt s k) (by unfold fromAt; exact hz) W hT ho
      have hfit := fOk_fits ho
      have hbs := fBody_size ho
      have hnext := H.out.next ho
      rw [fromAt_size s k hk] at hfit
      obtain ⟨b, hbb⟩ : ∃ b, b = fBody (fromAt s k) := ⟨_, rfl⟩
      rw [← hbb] at c hbs hnext
      obtain ⟨q, hq⟩ : ∃ q, q = k + 8 + fN (fromAt s k) := ⟨_, rfl⟩
      have hbz : b.size ≤ 140737488351232 := by omega
      have hbq : (b.size : Int) = q - k - 8 := by omega
      have hqs : q ≤ s.size := by omega
      have hkq : k + 8 ≤ q := by omega
      rw [← hq] at hnext
      unfold fromAt at c
      have C := Lib.hid c
      have Hnext := Lib.hid hnext
      have Hbq := Lib.hid hbq
      have hqb : (b.size : Int) + 8 + k ≤ 100000 := by omega
      clear c hnext hbq ho hfit hbs hbb hq
      have hlb : Hid (w.heap.size ≤ wr.heap.size) := Lib.hid hb.size
      have hl63 : ls.length + 1 ≤ maxLen := by unfold maxLen; omega
      have hl16 : (ls.length + 1) * 16 ≤ 140737488355328 := by omega
      go_wp2_with (first
        | (go_at_call 47; refine Calls.mono (C.out _ hT1) ?_; rintro e w1 ⟨rfl, hb1⟩)
        | (at_builtin; refine G.app_one rfl _ _ 41 9 rfl w.heap.size 1 16 _ Tryd.underlying41 info9 rfl (by decide) _ _ _ _ rfl rfl rfl (one_str _) (G.owns_below hown hb1) (Nat.le_trans hlb.out hb1.size) hl63 hl16 ?_; intro v1 w2 hown2 hg2)
        | (go_at_call 21; refine (size_any _ hbz _).mono ?_; rintro e w3 ⟨rfl, rfl⟩))
      go_roundw
      case rel =>
        refine ⟨ls ++ [b], q, ?_, ?_, ?_, Hnext⟩
        · have := Hbq.out
          exact congrArg (Value.int .i64) (by omega)
        · rw [strs_append, List.length_append]; exact hown2
        · exact G.below_grown (G.bthen' hb hlb.out hb1) (Nat.le_trans hlb.out hb1.size) (G.owns_below hown hb1) hg2
      case measure => have := Hbq.out; simp [intOf]; omega
    · have hno : fOk (fromAt s k) = false := by simpa using ho
      have c := fun W hT => first_no (fromAt s k) (by unfold fromAt; exact hz) W hT hno
      unfold fromAt at c
      have C := Lib.hid c
      clear c ho
      have hfin := H.out.stop hno
      have Hfin := Lib.hid hfin
      clear hfin hno
      go_wp2_with (go_at_call 47; refine Calls.mono (C.out _ hT1) ?_; rintro e w1 ⟨b, rfl, hb1⟩)
      go_ret2
      refine ⟨u4, ?_, ?_, ?_⟩
      · rw [Hfin.out]; rfl
      · rw [Hfin.out]; exact G.owns_below hown hb1
      · exact G.bthen' hb hb.size hb1
theorem app_own {P : Program} {ops : Array Oper} {rest : List Oper} {o : Oper} {a : Act} {Q : Exit → Act → World → Prop} {w : World} (hgd : o.guard = none) (s x : Operand) (t e : TypeId)
    (ho : o.op = .call { callee := .builtin .append, args := #[s, x], argTypes := #[t, t] })
    (base b2 size bytes : Nat) (z : Value) (ht : P.underlying t = some (.slice e)) (hinfo : (P.info? e).map (fun i => (i.zero, i.size, i.bytes)) = some (some z, size, bytes)) (hzs : z.cells.size = size) (hsz : 0 < size)
    (v : Value) (n : Nat) (xs : List Value) (hs : a.eval s = v) (HO : w.ownsRow base e size v n xs)
    (X : Value) (m : Nat) (news : List Value) (hx : a.eval x = X) (HX : w.ownsRow b2 e size X m news) (h1 : ∀ u ∈ news, u.oneCell' = true)
    (h63 : n + m ≤ maxLen) (hbytes : (n + m) * bytes ≤ 140737488355328) (hbase : base ≤ w.heap.size)
    (h : ∀ v' w', w'.ownsRow base e size v' (n + m) (xs ++ news) → w.grownBy w' v.ownBlock → (v'.ownBlock = v.ownBlock ∨ v'.ownBlock = some w.heap.size) → wpList P ops Q rest (a.put o.dst v') w') : wpList P ops Q (o :: rest) a w := by
  obtain ⟨i0, hi, hzz⟩ := Option.map_eq_some_iff.1 hinfo
  simp only [Prod.mk.injEq] at hzz
  obtain ⟨hz0, hz1, hz2⟩ := hzz
  have hh := G.HasRow.of_owns HX
  obtain ⟨hl, ⟨rfl, hn⟩ | ⟨g, cap, cur, rfl, hb, hg, _⟩⟩ := HX
  · subst hn
    obtain rfl : news = [] := by simpa using hl
    refine wpList_plain hgd fun K hK => ?_
    have hr := run_append_owned_none (P := P) w base t o.type e i0 size ht hi v n xs HO
    unfold Oper.wp execOp
    simp only [ho, resolve, invoke, builtin, Sem.run_bind, Sem.run_pure, Result.andThen_ok, List.map_toArray, List.map_cons, List.map_nil, hs, hx, hr]
    exact hK _ _ (h v w (by simpa using HO) ⟨rfl, rfl, rfl, Nat.le_refl _, fun _ _ _ => rfl⟩ (.inl rfl))
  · obtain ⟨_, A, c, hv, _, _, hc⟩ := hh
    cases hv
    exact wpList_append_own_at w hgd s x t ho base e i0 z size bytes ht hi hz0 hz1 hz2 hzs hsz v n xs hs HO ⟨g, 0, none⟩ m cap news hx hl (fun j u hj => by
      obtain ⟨ad, ha, hcell⟩ := hc j u hj
      cases ha; exact hcell) h1 h63 hbytes hbase (fun v' w' k1 k2 _ k4 => h v' w' k1 k2 k4)
theorem strs_one (l : List ByteArray) : ∀ u ∈ strs l, u.oneCell' = true := by
  intro u hu
  obtain ⟨b, _, rfl⟩ := List.mem_map.1 hu
  rfl
/-- the row of records is another one, its cell stored -/
theorem WInv.setrow {B db m lb : Nat} {s : DS} {L : LS} {v : Value} {w w1 : World} (h : WInv B db m lb s L v w) (x : Value) (l : List ByteArray) (n : Nat) (hn : n = l.length) (hg : w.grownBy w1 v.ownBlock) (ho : w1.ownsRow B 9 1 x n (strs l)) (hx : x.ownBlock = v.ownBlock ∨ x.ownBlock = some w.heap.size) :
    WStep B db m lb v w s { L with recs := l } (w1.setCell ⟨lb, 3, none⟩ x) := by
  subst hn
  have kg : ∀ j, j < w.heap.size → v.ownBlock ≠ some j → w1.heap[j]? = w.heap[j]? := fun j hj hne => hg.block j hj (fun e => hne e.symm)
  have kp : ∀ j, j ≠ lb → (w1.setCell ⟨lb, 3, none⟩ x).heap[j]? = w1.heap[j]? := fun j hj => Below.heap_setCell _ _ _ _ hj
  have kb : ∀ j, j < w.heap.size → ¬ LFoot lb v j → (w1.setCell ⟨lb, 3, none⟩ x).heap[j]? = w.heap[j]? := fun j hj hne => (kp j (fun e => hne (.inl e))).trans (kg j hj (fun e => hne (.inr e)))
  have hlb : w1.heap[lb]? = some (.cells (lcells db L v) 85 (0, 0)) := (kg lb h.l.lt h.l.off).trans h.l.cells
  have hxl : x.ownBlock ≠ some lb := fun e => by
    rcases hx with e1 | e1
    · exact h.l.off (e1 ▸ e)
    · rw [e1] at e; cases e; exact absurd h.l.lt (Nat.lt_irrefl _)
  have hf : Fr (WFoot db m lb v) w (w1.setCell ⟨lb, 3, none⟩ x) := ⟨hg.os, hg.tape, hg.output, by have := hg.size; simpa [World.setCell] using this, fun j hj hn => kb j hj (fun e => hn (.inr e))⟩
  refine ⟨x, ⟨⟨h.t.d.keep fun j hj => kb j (h.t.d.foot_lt hj) (fun e => h.apart e hj), tab_fr h.t.tab hf (fun h0 => by have := h.foot_B h0; have := h.t.pos; omega), h.t.pos⟩, ?_, h.l.hB, ?_⟩, fun j hj => ?_, hf⟩
  · rw [heap_setCell_same _ _ _ _ _ _ hlb]; rfl
  · exact owns_kept ho fun j hj => kp j (fun e => hxl (e ▸ hj))
  · rcases hj with hj | rfl | hj
    · exact .inl (.inl hj)
    · exact .inl (.inr (.inl rfl))
    · rcases hx with e1 | e1
      · exact .inl (.inr (.inr (e1 ▸ hj)))
      · rw [e1] at hj; cases hj; exact .inr (Nat.le_refl _)
/-- the newest generation that is whole, among files -/
def newP (s : DS) : List Int → Option (Int × ByteArray)
  | [] => none
  | no :: l => if no % 100 ≠ 0 ∨ 999900 < no then newP s l else if whole (s.fl no).data = true then some (no / 100, fBody (s.fl no).data) else newP s l
def newR : Option (Int × ByteArray) → Value
  | none => .tuple #[.int .i64 0, .string ⟨#[]⟩, .bool false]
  | some p => .tuple #[.int .i64 p.1, .string p.2, .bool true]
set_option maxRecDepth 100000 in
set_option maxHeartbeats 4000000 in
theorem newest_any (B db m : Nat) (s : DS) (k : Nat) (w : World) (h : DT B db m s w) (hO : Okk s k) (hoff : s.off = false) :
    Calls Tryd.prog 50 #[.pointer (some ⟨db, 0, none⟩)] w fun e w' => e = .returned (newR (newP s s.keys.reverse)) ∧ Below w.heap.size w w' := by
  obtain ⟨n, hn⟩ : ∃ n, n = s.keys.length := ⟨_, rfl⟩
  have hL := list_any B db m s w h.d hO.nd hO.rng (Nat.le_trans hO.len (by decide))
  rw [← hn] at hL
  have HL := Lib.hid hL
  have HT := Lib.hid h
  have HO := Lib.hid hO
  have HOff := Lib.hid hoff
  have hn1 : n ≤ 1000 := by
    rw [hn]
    show ((s.files.map (·.1)).mergeSort leI).length ≤ _
    rw [List.length_mergeSort, List.length_map]; exact Nat.le_trans hO.len (by decide)
  have HN := Lib.hid hn
  clear hL h hO hoff hn
  go_enter Tryd.func50, Tryd.ntmps50
  go_upto_block 0 with (go_at_call 52; refine HL.out.mono ?_; rintro e w1 ⟨lv, rfl, hown, hb1⟩; obtain ⟨LA, lc, rfl⟩ := owns_shape hown)
  have HB1 := Lib.hid hb1
  have HOwn := Lib.hid hown
  clear hb1 hown
  go_wp2_with (fail)
  go_loopw [16] (fun i wr => ∃ k : Nat, k ≤ n ∧ i = .int .i64 k ∧ Hid (Below w1.heap.size w1 wr) ∧ Hid (newP s s.keys.reverse = newP s (s.keys.take (n - k)).reverse)) (fun i _ => n - (intOf i).toNat)
  case atStart => exact ⟨0, by omega, by go_num, Lib.hid (Below.refl _ _), Lib.hid (by rw [Nat.sub_zero, HN.out, List.take_length])⟩
  case round =>
    obtain ⟨j, hj, rfl, HB, HP⟩ := hrel
    by_cases hjn : j < n
    · have hjk : n - 1 - j < s.keys.length := by have := HN.out; omega
      obtain ⟨no, hno⟩ : ∃ no, no = s.keys[n - 1 - j] := ⟨_, rfl⟩
      have hmem : no ∈ s.keys := by rw [hno]; exact List.getElem_mem hjk
      have hsome := (keys_mem no).1 hmem
      have hpos : 1 ≤ no ∧ no ≤ 1000000 := by
        obtain ⟨f, hf⟩ := Option.isSome_iff_exists.1 hsome
        exact HO.out.rng _ (get_mem hf)
      have hfl := fl_ok HO.out.fl no
      rw [show (M.get s.files no).getD fl0 = s.fl no from rfl] at hfl
      have hnext : newP s (s.keys.take (n - j)).reverse = newP s (no :: (s.keys.take (n - (j + 1))).reverse) := by
        rw [show n - j = (n - 1 - j) + 1 by omega, List.take_succ_eq_append_getElem hjk, List.reverse_append, ← hno, show n - (j + 1) = n - 1 - j by omega]
        rfl
      obtain ⟨_, _, _, hvl, _, _, hcl⟩ := G.HasRow.of_owns HOwn.out
      cases hvl
      obtain ⟨lad, hla, e0⟩ := hcl (n - 1 - j) (kv no) (by rw [List.getElem?_map, List.getElem?_eq_getElem hjk, hno]; rfl)
      subst hla
      have e0 := G.cell_below HB.out e0
      replace e0 : wr.cell? (lad.add (n - 1 - j)) = some (.int .i64 no) := e0
      have hcr := read_any B db m s no wr ((HT.out.low HB1.out).low HB.out).d
      rw [show readT s no = (s.fl no).data by rw [readT, HOff.out]; rfl] at hcr
      obtain ⟨b, hb⟩ : ∃ b, readB s no = b := ⟨_, rfl⟩
      rw [hb] at hcr
      have HTb := Lib.hid ((HT.out.low HB1.out).low HB.out)
      obtain ⟨T, hT⟩ : ∃ T, (s.fl no).data = T := ⟨_, rfl⟩
      rw [newP, hT] at hnext
      rw [hT] at hcr hfl
      have hTs : T.size ≤ 140737488351232 := by omega
      have HCR := Lib.hid hcr
      have hidx : ((n : Int) - 1 - j).toNat = n - 1 - j := by omega
      have hq1 : no.tmod 100 = no % 100 := Int.tmod_eq_emod_of_nonneg (by omega)
      have hq2 : no.tdiv 100 = no / 100 := Int.tdiv_eq_ediv_of_nonneg (by omega)
      have hstep : Hid (newP s s.keys.reverse = _) := Lib.hid (HP.out.trans hnext)
      have hsub : ∃ q : Nat, (n : Int) - 1 - j = q ∧ q = n - 1 - j := ⟨n - 1 - j, by omega, rfl⟩
      obtain ⟨q, hq3, hq4⟩ := hsub
      rw [← hq4] at e0
      have HQ4 := Lib.hid hq4
      clear hcr hcl hno hmem hsome hnext hb hT hidx hq4 hjk
      go_upto_region 7 with (go_at_call 63; refine HCR.out.mono ?_; rintro e w5 ⟨rfl, hb5⟩)
      have HB5 := Lib.hid (G.bthen HB.out hb5)
      have HT5 := Lib.hid (HTb.out.low hb5)
      clear hb5 e0
      by_cases hz : no % 100 = 0
      · by_cases hz2 : 999900 < no
        · have hs2 := hstep.out
          rw [if_pos (.inr hz2)] at hs2
          have HS2 := Lib.hid hs2
          have hz' : no.tmod 100 = 0 := by omega
          clear hs2 hstep hq1 hq2 hz
          go_wp2_with (go_at_call 53; refine (begin_any _ (by decide) _).mono ?_; rintro e w6 ⟨rfl, rfl⟩)
          go_roundw
          case rel => exact ⟨j + 1, by omega, by go_num, HB5, HS2⟩
          case measure => simp [intOf]; omega
        · have hs2 := hstep.out
          rw [if_neg (by omega)] at hs2
          have hz' : no.tmod 100 = 0 := by omega
          by_cases hw : whole T = true
          · rw [if_pos hw] at hs2
            have HS2 := Lib.hid hs2
            have CW := Lib.hid (fun W hW => whole_yes T hTs W hW hw)
            clear hs2 hstep hq1 hz hw
            go_wp2_with (first | (go_at_call 53; refine (begin_any _ (by decide) _).mono ?_; rintro e w6 ⟨rfl, rfl⟩) | (go_at_call 22; refine Calls.mono (CW.out _ (Lib.hid HT5.out.tab)) ?_; rintro e w6 ⟨rfl, hb6⟩))
            go_ret3
            rw [HS2.out]
            exact ⟨rfl, G.bthen (G.bthen HB1.out HB5.out) hb6⟩
          · rw [if_neg hw] at hs2
            have HS2 := Lib.hid hs2
            have CW := Lib.hid (fun W hW => whole_no T hTs W hW (by simpa using hw))
            clear hs2 hstep hq1 hq2 hz hw
            go_wp2_with (first | (go_at_call 53; refine (begin_any _ (by decide) _).mono ?_; rintro e w6 ⟨rfl, rfl⟩) | (go_at_call 22; refine Calls.mono (CW.out _ (Lib.hid HT5.out.tab)) ?_; rintro e w6 ⟨rfl, hb6⟩))
            go_roundw
            case rel => exact ⟨j + 1, by omega, by go_num, Lib.hid (G.bthen HB5.out hb6), HS2⟩
            case measure => simp [intOf]; omega
      · have hs2 := hstep.out
        rw [if_pos (.inl hz)] at hs2
        have HS2 := Lib.hid hs2
        have hz' : ¬ no.tmod 100 = 0 := by omega
        have hz'' : (no.tmod 100 != 0) = true := by simpa using hz'
        have hz3 : (no % 100 != 0) = true := by simpa using hz
        clear hs2 hstep hq1 hq2
        go_wp2_with (go_at_call 53; refine (begin_any _ (by decide) _).mono ?_; rintro e w6 ⟨rfl, rfl⟩)
        go_roundw
        case rel => exact ⟨j + 1, by omega, by go_num, HB5, HS2⟩
        case measure => simp [intOf]; omega
    · have : j = n := by omega
      subst this
      have hs2 := HP.out
      rw [Nat.sub_self] at hs2
      have HS2 := Lib.hid hs2
      clear hs2
      go_wp2
      go_ret3
      rw [HS2.out]
      exact ⟨rfl, G.bthen HB1.out HB.out⟩
end Go.Proofs.YtdmjbdecemajpaaDoor.D
