/- The walk of CodecLists. -/
import Derived.Test.YtolndeolehkjoaaLw3
import Derived.Test.YtolndeolehkjoaaPa2
import Derived.Test.YtolndeolehkjoaaUa1
namespace Go.Proofs.Ytolndeolehkjoaa
set_option linter.unusedVariables false
set_option linter.unusedSimpArgs false
open Go.RowKit CodP
/-- what each has, one behind the other -/
def wantS : List Ob → ByteArray
  | [] => ⟨#[]⟩
  | o :: l => (packS o).1 ++ wantS l
theorem wantS_snoc (l : List Ob) (o : Ob) : wantS (l ++ [o]) = wantS l ++ (packS o).1 := by
  induction l with
  | nil => simp [wantS, append_nil, nil_append]
  | cons a l ih => simp [wantS, ih, append_assoc3]
theorem wantS_all (l : List Ob) (h : ∀ o ∈ l, CodP.shape o = true) : wantS l = bytesAll l := by
  induction l with
  | nil => rfl
  | cons a l ih =>
    have h1 := h a (by simp)
    simp only [wantS, bytesAll]
    rw [ih fun x hx => h x (by simp [hx])]
    unfold packS
    rw [h1]; rfl
theorem packS_size (o : Ob) : (packS o).1.size ≤ 20000 := by
  unfold packS
  cases h : CodP.shape o
  · rw [if_neg (by simp)]; decide
  · rw [if_pos rfl]; exact bytesS_le o h
theorem bytesAll_le (l : List Ob) (h : ∀ o ∈ l, CodP.shape o = true) : (bytesAll l).size ≤ 20000 * l.length := by
  induction l with
  | nil => simp only [bytesAll]; exact Nat.zero_le _
  | cons a l ih =>
    have h1 := bytesS_le a (h a (by simp))
    have h2 := ih fun x hx => h x (by simp [hx])
    simp only [bytesAll, ByteArray.size_append, List.length_cons]
    omega
theorem bytesAll_take (l : List Ob) (k : Nat) : (bytesAll (l.take k)).size ≤ (bytesAll l).size := by
  induction l generalizing k with
  | nil => simp
  | cons a l ih =>
    cases k with
    | zero => simp only [List.take_zero, bytesAll]; exact Nat.zero_le _
    | succ k =>
      simp only [List.take_succ_cons, bytesAll, ByteArray.size_append]
      have := ih k
      omega
theorem load_mid_yields {S : World → Prop} {a : Act} {op : Oper} (x : Operand) (ho : op.op = .load 32 x) (b p : Nat) (hx : a.eval x = .pointer (some ⟨b, p, none⟩)) (e : OE) (hS : ∀ w, S w → w.rangeAt b p (ec e)) :
    ∀ w, S w → (execOp a.eval op).run Try.prog w = .ok (.value (.agg (oc e.o e.f e.l e.c e.p e.i))) w := fun w hw => by
  have h := run_loadAt_mid (P := Try.prog) w b p 32 (ec e) _ (hS w hw) Try.underlying32 rfl size32
  unfold execOp
  simp only [ho, hx, Sem.run_bind, h, Result.andThen_ok]
  rw [ec, Array.toArray_toList]
  rfl
theorem range_below {w w1 : World} {b p : Nat} {cs : List Value} (h : w.rangeAt b p cs) (hb : Below w.heap.size w w1) : w1.rangeAt b p cs := fun j v hj => G.cell_below hb (h j v hj)
set_option maxRecDepth 100000 in
set_option maxHeartbeats 8000000 in
theorem lists_big (L : List OE) (A : Option Addr) (c : Nat) (s : ByteArray) (hz : (L.length : Int) ≤ 140737488351232) (h : (20 : Int) < L.length) (w : World) :
    Calls Try.prog 7 #[.slice A L.length c, .string s] w fun e w' => e = .returned (.bool true) ∧ Below w.heap.size w w' := by
  go_enter Try.func7, Try.ntmps7
  go_wp2_with (go_at_call 11; refine (awake_any _).mono ?_; rintro e w1 ⟨rfl, hb⟩)
  go_ret
  exact ⟨rfl, hb⟩
set_option maxRecDepth 100000 in
set_option maxHeartbeats 8000000 in
theorem lists_long (L : List OE) (A : Option Addr) (c : Nat) (s : ByteArray) (hz : (L.length : Int) ≤ 20) (h : (9000 : Int) < s.size) (w : World) :
    Calls Try.prog 7 #[.slice A L.length c, .string s] w fun e w' => e = .returned (.bool true) ∧ Below w.heap.size w w' := by
  go_enter Try.func7, Try.ntmps7
  go_wp2_with (go_at_call 11; refine (awake_any _).mono ?_; rintro e w1 ⟨rfl, hb⟩)
  go_ret
  exact ⟨rfl, hb⟩
set_option maxRecDepth 100000 in
set_option maxHeartbeats 40000000 in
theorem lists_any (L : List OE) (A : Option Addr) (c : Nat) (s : ByteArray) (hL : (L.length : Int) ≤ 20) (hs : (s.size : Int) ≤ 9000) (hz : ∀ e ∈ L, ObSz e.o) (w : World) (hr : ObsR w A L) :
    Calls Try.prog 7 #[.slice A L.length c, .string s] w fun e w' => e = .returned (.bool true) ∧ Below w.heap.size w w' := by
  have HR := Lib.hid hr
  have HZ := Lib.hid hz
  clear hr hz
  go_enter Try.func7, Try.ntmps7
  go_upto_region 5 with (go_at_call 11; refine (awake_any _).mono ?_; rintro e w1 ⟨rfl, hb1⟩)
  have B1 := Lib.hid hb1
  clear hb1
  go_wp2
  go_loopw [5, 6, 7] (fun wv fv j wr => ∃ (k : Nat) (b : ByteArray), k ≤ L.length ∧ j = .int .i64 k ∧ wv = .string b ∧ b.size ≤ 20000 * k ∧ fv = .bool ((L.take k).all fun e => CodP.shape e.o) ∧ Hid (b = wantS ((L.take k).map (·.o)) ∧ (∀ e ∈ L.take k, longO e.o = false) ∧ Below w.heap.size w wr)) (fun _ _ j _ => L.length - (intOf j).toNat)
  case atStart => exact ⟨0, ⟨#[]⟩, Nat.zero_le _, rfl, rfl, Nat.zero_le _, by simp, Lib.hid ⟨rfl, by simp, B1.out⟩⟩
  case round =>
    obtain ⟨k, b, hk, rfl, rfl, hbz, rfl, H⟩ := hrel
    by_cases hkn : k < L.length
    · obtain ⟨e, he⟩ : ∃ e, L[k]? = some e := ⟨_, List.getElem?_eq_getElem hkn⟩
      obtain ⟨g, p, hA, hrg, hrows⟩ := (HR.out.below H.out.2.2).at he
      subst hA
      have HE := Lib.hid he
      have HRG := Lib.hid hrg
      have HRW := Lib.hid hrows
      have C1 := Lib.hid (long_any e.o e.f e.l e.c e.p e.i (HZ.out e (List.mem_of_getElem? he)) wr hrows)
      have hps := packS_size e.o
      clear he hrg hrows
      go_upto_region 10 with (fail)
      iterate 10 (first | go_values | go_skip | go_guarded | go_step)
      refine wpList_load_elem rfl (.tmp 37) rfl g (p + k * 19) rfl e HRG.out ?_
      go_wp2_with (fail)
      refine C1.out.mono ?_
      rintro y w3 ⟨rfl, hb3⟩
      cases hlo : longO e.o
      rotate_left
      · go_wp2
        go_ret
        exact ⟨rfl, H.out.2.2.trans (belowLe H.out.2.2.size hb3)⟩
      · have hle := long_le e.o hlo
        have C2 := Lib.hid (rpack_any e.o e.f e.l e.c e.p e.i ⟨by omega, by omega, by omega, by omega, by omega⟩ w3 (HRW.out.below hb3))
        have HLO := Lib.hid hlo
        have HRG3 := Lib.hid (range_below HRG.out hb3)
        have B3 := Lib.hid (H.out.2.2.trans (belowLe H.out.2.2.size hb3))
        have hall : (L.take (k + 1)).all (fun e => CodP.shape e.o) = ((L.take k).all (fun e => CodP.shape e.o) && CodP.shape e.o) := by
          rw [List.take_add_one, HE.out, List.all_append]; simp
        have HALL := Lib.hid hall
        clear hlo hle hb3 hall
        go_upto_region 12 with (fail)
        iterate 10 (first | go_values | go_skip | go_guarded | go_step)
        refine wpList_load_elem rfl (.tmp 43) rfl g (p + k * 19) rfl e HRG3.out ?_
        go_wp2_with (fail)
        refine C2.out.mono ?_
        rintro y w4 ⟨rfl, hb4⟩
        have B4 := Lib.hid (B3.out.trans (belowLe B3.out.size hb4))
        have hw2 : wantS ((L.take (k + 1)).map (·.o)) = wantS ((L.take k).map (·.o)) ++ (packS e.o).1 := by
          rw [List.take_add_one, HE.out, List.map_append]; exact wantS_snoc _ _
        have HW2 := Lib.hid hw2
        clear hb4 hw2
        have hq1 : (packS e.o).2 = (if CodP.shape e.o = true then 0 else 13) := by unfold packS; split <;> rfl
        obtain ⟨⟨pt, pe⟩, hpk⟩ : ∃ z, z = packS e.o := ⟨_, rfl⟩
        rw [← hpk] at hps hq1 HW2 ⊢
        simp only at hps hq1 HW2 ⊢
        subst hq1
        have hbz2 : (b ++ pt).size ≤ 20000 * (k + 1) := by rw [ByteArray.size_append]; omega
        clear hpk
        cases hsh : CodP.shape e.o
        · rw [hsh] at HALL
          have HA2 := Lib.hid (show (L.take (k + 1)).all (fun e => CodP.shape e.o) = false by rw [HALL.out, Bool.and_false])
          clear hsh
          cases hpre : (L.take k).all (fun e => CodP.shape e.o)
          all_goals
            go_wp2
            go_roundw
            case rel => exact ⟨k + 1, _, by omega, by go_num, rfl, hbz2, by rw [HA2.out], Lib.hid ⟨by rw [HW2.out, ← H.out.1], fun e' he' => by
              rw [List.take_add_one, HE.out] at he'
              rcases List.mem_append.1 he' with h1 | h1
              · exact H.out.2.1 e' h1
              · simp at h1; rw [h1]; exact HLO.out, B4.out⟩⟩
            case measure => simp [intOf]; omega
        · rw [hsh] at HALL
          have HA2 := Lib.hid (show (L.take (k + 1)).all (fun e => CodP.shape e.o) = (L.take k).all (fun e => CodP.shape e.o) by rw [HALL.out, Bool.and_true])
          clear hsh
          cases hpre : (L.take k).all (fun e => CodP.shape e.o)
          all_goals
            have HPRE := Lib.hid hpre
            go_wp2
            go_roundw
            case rel => exact ⟨k + 1, _, by omega, by go_num, rfl, hbz2, by rw [HA2.out, HPRE.out], Lib.hid ⟨by rw [HW2.out, ← H.out.1], fun e' he' => by
              rw [List.take_add_one, HE.out] at he'
              rcases List.mem_append.1 he' with h1 | h1
              · exact H.out.2.1 e' h1
              · simp at h1; rw [h1]; exact HLO.out, B4.out⟩⟩
            case measure => simp [intOf]; omega
    · obtain rfl : k = L.length := by omega
      have hlo : ∀ e ∈ L, longO e.o = false := by have := H.out.2.1; rwa [List.take_length] at this
      have hw := H.out.1
      rw [List.take_length] at hw ⊢
      have hzz : ∀ e ∈ L, e.o.fins.length ≤ 1000000 ∧ e.o.labels.length ≤ 1000000 ∧ e.o.cidrs.length ≤ 1000000 ∧ e.o.fams.length ≤ 1000000 ∧ e.o.ips.length ≤ 1000000 := fun e he => by have := long_le e.o (hlo e he); exact ⟨by omega, by omega, by omega, by omega, by omega⟩
      have hbb : ∀ k, (∀ e ∈ L.take k, CodP.shape e.o = true) → (bytesAll ((L.take k).map (·.o))).size ≤ 1000000 := fun k h => by
        have h1 := bytesAll_le ((L.take k).map (·.o)) (fun o ho => by obtain ⟨e, he, rfl⟩ := List.mem_map.1 ho; exact h e he)
        have h2 : ((L.take k).map (·.o)).length ≤ 20 := by rw [List.length_map, List.length_take]; omega
        omega
      have C1 := Lib.hid (packall_any L A c (by omega) hzz hbb wr (HR.out.below H.out.2.2))
      have B2 := Lib.hid H.out.2.2
      have HW := Lib.hid hw
      clear hlo hw hbb hbz hkn hk H
      cases hall : L.all (fun e => CodP.shape e.o)
      · have hq : packAllS (L.map (·.o)) = (⟨#[]⟩, 13) := by
          unfold packAllS
          rw [if_neg]
          rw [List.all_map]
          intro h
          have h2 : L.all (fun e => CodP.shape e.o) = true := h
          rw [hall] at h2; cases h2
        rw [hq] at C1
        clear hq hall hzz
        go_wp2_with (go_at_call 22; refine C1.out.mono ?_; rintro y w5 ⟨rfl, hb5⟩)
        go_ret
        exact ⟨rfl, B2.out.trans (belowLe B2.out.size hb5)⟩
      · have hsh : ∀ o ∈ L.map (·.o), CodP.shape o = true := fun o ho => by
          obtain ⟨e, he, rfl⟩ := List.mem_map.1 ho
          exact List.all_eq_true.1 hall e he
        have hq : packAllS (L.map (·.o)) = (bytesAll (L.map (·.o)), 0) := by
          unfold packAllS
          rw [if_pos (List.all_eq_true.2 hsh)]
        rw [hq] at C1
        have hbs := bytesAll_le _ hsh
        rw [List.length_map] at hbs
        have hbk := allS_back _ hsh
        have hwb := wantS_all _ hsh
        have C2 := Lib.hid (fun V => unpackall_any (bytesAll (L.map (·.o))) (by omega) V)
        rw [hbk] at C2
        rw [hwb] at HW
        have HZZ := Lib.hid hzz
        obtain ⟨ta, hta⟩ : ∃ z, z = bytesAll (L.map (·.o)) := ⟨_, rfl⟩
        rw [← hta] at C1 C2 HW
        have hbt := HW.out
        subst hbt
        have q1 : (b.toList == b.toList) = true := by simp
        clear hq hall hzz hsh hbs hbk hwb hta HW
        go_wp2_with (fail)
        refine C1.out.mono ?_
        rintro y w5 ⟨rfl, hb5⟩
        have B5 := Lib.hid (B2.out.trans (belowLe B2.out.size hb5))
        clear hb5
        go_wp2_with (fail)
        refine (C2.out _).mono ?_
        rintro y w6 ⟨M, MA, mc, e6, rfl, hd, hml, hmr, hb6⟩
        obtain ⟨hM, he6⟩ : M.map (·.o) = L.map (·.o) ∧ e6 = 0 := by
          rcases hd with ⟨h, _⟩ | ⟨h, h2⟩
          · cases h
          · injection h with h; exact ⟨h.symm, h2⟩
        subst he6
        have hlen : M.length = L.length := by have := congrArg List.length hM; rwa [List.length_map, List.length_map] at this
        have q2 : ((M.length : Int) != (L.length : Int)) = false := by simp [hlen]
        have HM := Lib.hid hM
        have HLEN := Lib.hid hlen
        have hmi : (M.length : Int) = L.length := by omega
        have B6 := Lib.hid (B5.out.trans (belowLe B5.out.size hb6))
        have MR := Lib.hid hmr
        clear hd hml hmr hb6 hM hlen hmi
        go_wp2
        go_loopw [14] (fun j wr => ∃ k : Nat, k ≤ L.length ∧ j = .int .i64 k ∧ Hid (Below w.heap.size w wr ∧ Below w6.heap.size w6 wr)) (fun j _ => L.length - (intOf j).toNat)
        case atStart => exact ⟨0, Nat.zero_le _, rfl, Lib.hid ⟨B6.out, Below.refl _ _⟩⟩
        case round =>
          obtain ⟨k, hk, rfl, GH⟩ := hrel
          by_cases hkn : k < L.length
          · obtain ⟨e, he⟩ : ∃ e, L[k]? = some e := ⟨_, List.getElem?_eq_getElem hkn⟩
            obtain ⟨d, hd⟩ : ∃ d, M[k]? = some d := ⟨_, List.getElem?_eq_getElem (by have := HLEN.out; omega)⟩
            have heq : d.o = e.o := by
              have h1 : (M.map (·.o))[k]? = some d.o := by rw [List.getElem?_map, hd]; rfl
              rw [HM.out, List.getElem?_map, he] at h1
              injection h1 with h1; exact h1.symm
            obtain ⟨g1, p1, hA1, hrg1, hrows1⟩ := (HR.out.below GH.out.1).at he
            obtain ⟨g2, p2, hA2, hrg2, hrows2⟩ := (MR.out.below GH.out.2).at hd
            subst hA1; subst hA2
            have hz1 := HZZ.out e (List.mem_of_getElem? he)
            have R1 := Lib.hid hrg1
            have R2 := Lib.hid hrg2
            have RW1 := Lib.hid hrows1
            have RW2 := Lib.hid hrows2
            have HEQ := Lib.hid heq
            have HZ1 := Lib.hid hz1
            have hkm : (k : Int) < M.length := by have := HLEN.out; omega
            clear he hd heq hrg1 hrg2 hrows1 hrows2 hz1
            go_upto_region 24 with (fail)
            refine wp_region_held_drew (S := fun V => Below wr.heap.size wr V) (by kernel_rfl) (G.bdrew (Below.refl _ _)) (fun hS0 => ?_)
            refine tk 0 98 (.slice (some ⟨g2, p2, none⟩) M.length mc) ?_
            try simp only [s1, s2, s3]
            refine tk 1 99 (.int .i64 (k : Nat)) ?_
            try simp only [s1, s2, s3]
            refine tk 2 100 (.pointer (some ⟨g2, p2 + k * 19, none⟩)) ?_
            try simp only [s1, s2, s3]
            refine tk 3 101 (.agg (oc d.o d.f d.l d.c d.p d.i)) ?_ (hv := by exact load_mid_yields (.tmp 100) rfl g2 (p2 + k * 19) rfl d (fun V hV => range_below R2.out hV))
            try simp only [s1, s2, s3]
            refine tk 4 102 (.slice (some ⟨g1, p1, none⟩) L.length c) ?_
            try simp only [s1, s2, s3]
            refine tk 5 103 (.int .i64 (k : Nat)) ?_
            try simp only [s1, s2, s3]
            refine tk 6 104 (.pointer (some ⟨g1, p1 + k * 19, none⟩)) ?_
            try simp only [s1, s2, s3]
            refine tk 7 105 (.agg (oc e.o e.f e.l e.c e.p e.i)) ?_ (hv := by exact load_mid_yields (.tmp 104) rfl g1 (p1 + k * 19) rfl e (fun V hV => range_below R1.out hV))
            try simp only [s1, s2, s3]
            refine wpAnyH_ready (rs := [8]) (by kernel_rfl) (by simp) ?_
            refine AllReadyH.cons rfl (fun K hK => ?_) ?_
            · rw [if_pos (by rfl)]
              go_simp
              go_at_call 18
              refine (same14_any d.o e.o d.f d.l d.c d.p d.i e.f e.l e.c e.p e.i (by rw [HEQ.out]; exact HZ1.out) _ (RW2.out.below hS0) (RW1.out.below hS0)).mono ?_
              rw [HEQ.out, sameB_self]
              rintro y w8 ⟨rfl, hb8⟩
              dsimp only
              refine hK.out _ _ (G.bthen hS0 hb8) (fun hHeld => ?_)
              clear hK K
              try simp only [Act.put, s1, s2, s3]
              refine tk 9 107 (.bool false) ?_
              try simp only [s1, s2, s3]
              refine wpAnyH_done (by kernel_rfl) ?_ _
              have HE8 := Lib.hid hHeld
              clear hHeld hb8 hS0
              go_wp2
              go_roundw
              case rel => exact ⟨k + 1, by omega, by go_num, Lib.hid ⟨GH.out.1.trans (belowLe GH.out.1.size HE8.out), G.bthen GH.out.2 HE8.out⟩⟩
              case measure => simp [intOf]; omega
            exact AllReadyH.nil
          · obtain rfl : k = L.length := by omega
            have C3 := Lib.hid (unpackall_any s (by omega) wr)
            have B7 := Lib.hid GH.out.1
            clear hkn GH
            go_wp2_with (fail)
            refine C3.out.mono ?_
            rintro y w9 ⟨K9, A9, c9, e9, rfl, hd, hml, hmr, hb9⟩
            have B9 := Lib.hid (B7.out.trans (belowLe B7.out.size hb9))
            have hk9 : (K9.length : Int) ≤ 9000 := by omega
            rcases hd with ⟨hn, rfl, rfl⟩ | ⟨hsm, rfl⟩
            · clear hn hmr hb9
              go_wp2
              go_ret
              exact ⟨rfl, B9.out⟩
            · obtain ⟨h1, h2⟩ := allS_ok s.size s _ (Nat.le_refl _) hsm
              have hsh : ∀ e ∈ K9, CodP.shape e.o = true := fun e he => h1 e.o (List.mem_map_of_mem he)
              have C4 := Lib.hid (packall_any K9 A9 c9 (by omega) (fun e he => shape_len e.o (hsh e he)) (fun j _ => by
                have h3 := bytesAll_take (K9.map (·.o)) j
                rw [h2, ← List.map_take] at h3
                omega) w9 hmr)
              have hq : packAllS (K9.map (·.o)) = (s, 0) := by
                unfold packAllS
                rw [if_pos (List.all_eq_true.2 h1), h2]
              rw [hq] at C4
              have q5 : (s.toList == s.toList) = true := by simp
              clear h1 h2 hsh hq hsm hmr hb9
              go_wp2_with (go_at_call 22; refine C4.out.mono ?_; rintro y w10 ⟨rfl, hb10⟩)
              go_ret
              exact ⟨rfl, B9.out.trans (belowLe B9.out.size hb10)⟩
section
variable {H : Type} {enc : TypeId × Value → H} {W : World} {base : Nat} {sp : Nat → Bool} {held : Bool}
theorem bytes32 : Try.prog.bytesOf 32 = 288 := by kernel_rfl
theorem ob_openE : P.Opens enc Try.prog W base sp held 32 fun cs => ∃ e : OE, cs = ec e ∧ (RowsR W e.o e.f e.l e.c e.p e.i ∧ ObSz e.o) := by
  refine ob_open.mono fun cs h => ?_
  obtain ⟨o, f, l, c, p, i, h1, h2, h3⟩ := h
  exact ⟨⟨o, f, l, c, p, i⟩, h1, h2, h3⟩
theorem obs_open : P.Opens enc Try.prog W base sp held 45 fun cs => ∃ (L : List OE) (A : Option Addr) (c : Nat), cs = [.slice A L.length c] ∧ L.length ≤ 140737488351232 ∧ (∀ e ∈ L, ObSz e.o) ∧ ObsR W A L := by
  have key := P.opens_slice (W := W) (enc := enc) (base := base) (sp := sp) (held := held) Try.underlying45 ec (fun e => RowsR W e.o e.f e.l e.c e.p e.i ∧ ObSz e.o) 19 288 cells32 bytes32 ec_len ob_openE
  refine key.mono fun cs h => ?_
  obtain ⟨L, A, c, h1, h2, h3, h4⟩ := h
  exact ⟨L, A, c, h1, by omega, fun e he => (h3 e he).2, row_of h4, fun e he => (h3 e he).1⟩
theorem slice_val {P : Program} {w : World} {r : Reach} {b0 : Nat} {t e : TypeId} {v : Value} (ht : P.underlying t = some (.slice e)) (hv : Value.okWide P w r b0 t v) {A : Option Addr} {n c : Nat} (hc : v.cells.toList = [.slice A n c]) : v = .slice A n c := by
  obtain ⟨A', len, cap, rfl⟩ := Go.WideShapes.okWide_slice ht hv
  simp [Value.cells] at hc
  obtain ⟨rfl, rfl, rfl⟩ := hc
  rfl
set_option maxRecDepth 100000 in
theorem obs_arg {v : Value} {d : DataW H} {ps : List MemPlace} {ts : List TypeId} {ds : List (DataW H)} {j : Nat} {r : Reach} {b0 : Nat} (hv : Value.okWide Try.prog W r b0 45 v)
    (h : DataW.Trod enc Try.prog W base sp held 45 v d ps) (hs : (DataW.weightsEach Try.prog ts ds).all (· ≤ reachBytes) = true) (ht : ts[j]? = some 45) (hd : ds[j]? = some d) : ∃ (L : List OE) (A : Option Addr) (c : Nat), v = .slice A L.length c ∧ L.length ≤ 140737488351232 ∧ (∀ e ∈ L, ObSz e.o) ∧ ObsR W A L := by
  obtain ⟨fuel, hf⟩ := h
  obtain ⟨L, A, c, hc, hz⟩ := obs_open _ _ _ hf (P.sz_of hs ht hd)
  exact ⟨L, A, c, slice_val Try.underlying45 hv hc, hz⟩
end
theorem lists_row (L : List OE) (A : Option Addr) (c : Nat) (W : World) (hl : L.length ≤ 140737488351232) (hz : ∀ e ∈ L, ObSz e.o) (hr : ObsR W A L) (s : ByteArray) (_ : s.size ≤ 140737488351232) (w : World) (hw : w = W) :
    Calls Try.prog 7 #[.slice A L.length c, .string s] w fun e w' => e = .returned (.bool true) ∧ Below w.heap.size w w' := by
  subst hw
  by_cases h20 : (20 : Int) < L.length
  · exact lists_big L A c s (by omega) h20 w
  by_cases h9 : (9000 : Int) < s.size
  · exact lists_long L A c s (by omega) h9 w
  exact lists_any L A c s (by omega) (by omega) hz w hr
end Go.Proofs.Ytolndeolehkjoaa
