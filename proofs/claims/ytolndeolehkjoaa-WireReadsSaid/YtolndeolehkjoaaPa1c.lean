/- Objects one behind the other: PackAll. -/
import Derived.Test.YtolndeolehkjoaaPk1c
import Derived.Test.YtolndeolehkjoaaLg2c
import Derived.Test.YtolndeolehkjoaaCodTc
import Derived.Deep.MidRow
namespace Go.Proofs.Ytolndeolehkjoaa
set_option linter.unusedVariables false
set_option linter.unusedSimpArgs false
open Go.RowKit CodP
/-- an object in memory -/
structure OE where
  o : Ob
  f : Sl
  l : Sl
  c : Sl
  p : Sl
  i : Sl
def ec (e : OE) : List Value := (oc e.o e.f e.l e.c e.p e.i).toList
theorem ec_len (e : OE) : (ec e).length = 19 := rfl
structure ObsR (w : World) (A : Option Addr) (L : List OE) : Prop where
  row : RowR w A (L.flatMap ec)
  rows : ∀ e ∈ L, RowsR w e.o e.f e.l e.c e.p e.i
theorem ObsR.below {w w1 : World} {A : Option Addr} {L : List OE} (h : ObsR w A L) (hb : Below w.heap.size w w1) : ObsR w1 A L := ⟨h.row.below hb, fun e he => (h.rows e he).below hb⟩
theorem ObsR.at {w : World} {A : Option Addr} {L : List OE} (h : ObsR w A L) {k : Nat} {e : OE} (hk : L[k]? = some e) : ∃ b o, A = some ⟨b, o, none⟩ ∧ w.rangeAt b (o + k * 19) (ec e) ∧ RowsR w e.o e.f e.l e.c e.p e.i := by
  have key : ∀ j u, (ec e)[j]? = some u → ∃ ad, A = some ad ∧ w.cell? (ad.add (k * 19 + j)) = some u := fun j u hj => by
    have hj19 : j < 19 := by
      rcases Nat.lt_or_ge j 19 with h1 | h1
      · exact h1
      · rw [List.getElem?_eq_none (by rw [ec_len]; exact h1)] at hj; cases hj
    exact h.row _ _ ((flat_at ec 19 ec_len L k e hk j hj19).trans hj)
  have h0 : 0 < L.length := by
    rcases Nat.lt_or_ge k L.length with h1 | h1
    · omega
    · rw [List.getElem?_eq_none h1] at hk; cases hk
  obtain ⟨e0, he0⟩ : ∃ e0, L[0]? = some e0 := ⟨_, List.getElem?_eq_getElem h0⟩
  obtain ⟨ad, hA, hc⟩ := h.row 0 (.int .i64 e0.o.kind) (by
    have := flat_at ec 19 ec_len L 0 e0 he0 0 (by omega)
    simpa [ec, oc] using this)
  have hsp : ad.spot = none := by
    have h1 : ad.add 0 = ad := by unfold Addr.add; simp
    rw [h1] at hc
    unfold World.cell? at hc
    split at hc
    · split at hc
      · cases hc
      · rename_i h2; simpa using h2
    · cases hc
  obtain ⟨b, o, sp⟩ := ad
  simp only at hsp
  subst hsp
  refine ⟨b, o, hA, fun j u hj => ?_, h.rows e (List.mem_of_getElem? hk)⟩
  obtain ⟨ad', hA', hc'⟩ := key j u hj
  rw [hA] at hA'
  injection hA' with hA'
  subst hA'
  rw [Addr.add_mid, ← Nat.add_assoc] at hc'
  exact hc'
theorem string_fresh (T b : Nat) (w : World) (h : w.heap[b]? = some (.cells #[.pointer none, .slice none 0 0] T (0, 0))) :
    Calls Try.prog 43 #[.pointer (some ⟨b, 0, none⟩)] w fun e w' => e = .returned (.string ⟨#[]⟩) ∧ Below w.heap.size w w' := by
  have c1 : w.drew.cell? ⟨b, 1, none⟩ = some (.slice none 0 0) := by
    rw [Lib.cell_of_heap (show w.drew.heap[b]? = _ from h)]; rfl
  have hSD : (Builtin.unsafeSliceData_ #[67] 111 #[.slice none 0 0]).run Try.prog w.drew = .ok (.pointer none) w.drew := by kernel_rfl
  have hUS : (Builtin.unsafeString_ #[111, 3] 9 #[.pointer none, .int .i64 0]).run Try.prog w.drew = .ok (.string ⟨#[]⟩) w.drew := by kernel_rfl
  clear h
  go_enter Try.func43, Try.ntmps43
  go_wp2
  go_region
  all_goals (go_wp2; go_ret; exact ⟨rfl, G.bdrew (Below.refl _ _)⟩)
end Go.Proofs.Ytolndeolehkjoaa
namespace Go.Proofs.Ytolndeolehkjoaa
set_option linter.unusedVariables false
set_option linter.unusedSimpArgs false
open Go.RowKit CodP
theorem wpList_load_elem {ops : Array Oper} {rest : List Oper} {op : Oper} {a : Act} {w : World} {Q : Exit → Act → World → Prop} (hgd : op.guard = none) (x : Operand) (ho : op.op = .load 32 x)
    (b p : Nat) (hx : a.eval x = .pointer (some ⟨b, p, none⟩)) (e : OE) (hc : w.rangeAt b p (ec e)) (h : wpList Try.prog ops Q rest (a.put op.dst (.agg (oc e.o e.f e.l e.c e.p e.i))) w) : wpList Try.prog ops Q (op :: rest) a w :=
  wpList_load_mid hgd 32 x ho b p hx (ec e) _ hc Try.underlying32 rfl size32 (by rw [ec, Array.toArray_toList]; exact h)
def packAllS (L : List Ob) : ByteArray × Int := if L.all CodP.shape = true then (bytesAll L, 0) else (⟨#[]⟩, 13)
theorem elenL (e : OE) (hz : e.o.fins.length ≤ 1000000 ∧ e.o.labels.length ≤ 1000000 ∧ e.o.cidrs.length ≤ 1000000 ∧ e.o.fams.length ≤ 1000000 ∧ e.o.ips.length ≤ 1000000) : True := trivial
set_option maxRecDepth 100000 in
set_option maxHeartbeats 8000000 in
theorem packall_any (L : List OE) (A : Option Addr) (c : Nat) (hL : L.length ≤ 10000) (hz : ∀ e ∈ L, e.o.fins.length ≤ 1000000 ∧ e.o.labels.length ≤ 1000000 ∧ e.o.cidrs.length ≤ 1000000 ∧ e.o.fams.length ≤ 1000000 ∧ e.o.ips.length ≤ 1000000)
    (hb : ∀ k, (∀ e ∈ L.take k, CodP.shape e.o = true) → (bytesAll ((L.take k).map (·.o))).size ≤ 1000000) (w : World) (hr : ObsR w A L) :
    Calls Try.prog 22 #[.slice A L.length c] w fun x w' => x = .returned (.tuple #[.string (packAllS (L.map (·.o))).1, .int .i64 (packAllS (L.map (·.o))).2]) ∧ Below w.heap.size w w' := by
  obtain ⟨w1, hw1⟩ : ∃ w1, w1 = w.alloc (.cells #[.pointer none, .slice none 0 0] 75) := ⟨_, rfl⟩
  have b1 : Below w.heap.size w w1 := by rw [hw1]; exact bel_alloc _ _
  have d1 : Bd 75 w.heap.size [] w1 := by rw [hw1]; exact Bd.new 75 w
  have p1 : w1.heap[w.heap.size]? = some (.cells #[.pointer none, .slice none 0 0] 75 (0, 0)) := by rw [hw1]; exact G.heap_new _ _
  obtain ⟨x, hx⟩ : ∃ x, x = w.heap.size := ⟨_, rfl⟩
  rw [← hx] at d1 p1
  have HX := Lib.hid hx
  have HR := Lib.hid hr
  have HZ := Lib.hid hz
  have HB := Lib.hid hb
  have B1 := Lib.hid b1
  have D1 := Lib.hid d1
  have P1 := Lib.hid p1
  have HW := Lib.hid hw1
  clear hr hz hb b1 d1 p1 hw1
  go_enter Try.func22, Try.ntmps22
  go_upto_region 2 with (fail)
  rw [← HW.out, ← hx]
  clear hx
  go_wp2
  go_loopw [11] (fun j wr => ∃ k : Nat, k ≤ L.length ∧ j = .int .i64 k ∧ Hid (Bd 75 x (BL (bytesAll ((L.take k).map (·.o)))) wr ∧ Below w.heap.size w wr ∧ (∀ e ∈ L.take k, CodP.shape e.o = true) ∧ (k = 0 → wr.heap[x]? = some (.cells #[.pointer none, .slice none 0 0] 75 (0, 0))))) (fun j _ => L.length - (intOf j).toNat)
  case atStart => exact ⟨0, Nat.zero_le _, rfl, Lib.hid ⟨D1.out, B1.out, by simp, fun _ => P1.out⟩⟩
  case round =>
    obtain ⟨k, hk, rfl, H⟩ := hrel
    by_cases hkn : k < L.length
    · obtain ⟨e, he⟩ : ∃ e, L[k]? = some e := ⟨_, List.getElem?_eq_getElem hkn⟩
      obtain ⟨b, p, hA, hrg, hrows⟩ := (HR.out.below H.out.2.1).at he
      subst hA
      have HE := Lib.hid he
      have HRG := Lib.hid hrg
      have HRW := Lib.hid hrows
      have HZE := Lib.hid (HZ.out e (List.mem_of_getElem? he))
      clear he hrg hrows
      have b5 := bel_allocRow wr #[.int .i64 0, .string ⟨#[]⟩, .int .i64 0, .int .i64 0, .bool false, .slice none 0 0, .slice none 0 0, .slice none 0 0, .string ⟨#[]⟩, .int .i64 0, .int .i64 0, .slice none 0 0, .slice none 0 0, .string ⟨#[]⟩, .string ⟨#[]⟩, .int .i64 0, .string ⟨#[]⟩, .string ⟨#[]⟩, .string ⟨#[]⟩] (oc e.o e.f e.l e.c e.p e.i) 32
      obtain ⟨v5, hv5⟩ : ∃ z, z = (wr.alloc (.cells #[.int .i64 0, .string ⟨#[]⟩, .int .i64 0, .int .i64 0, .bool false, .slice none 0 0, .slice none 0 0, .slice none 0 0, .string ⟨#[]⟩, .int .i64 0, .int .i64 0, .slice none 0 0, .slice none 0 0, .string ⟨#[]⟩, .string ⟨#[]⟩, .int .i64 0, .string ⟨#[]⟩, .string ⟨#[]⟩, .string ⟨#[]⟩] 32)).setRow wr.heap.size (oc e.o e.f e.l e.c e.p e.i) := ⟨_, rfl⟩
      rw [← hv5] at b5
      obtain ⟨tb, htb⟩ : ∃ z, z = wr.heap.size := ⟨_, rfl⟩
      have p5 : v5.heap[tb]? = some (.cells (oc e.o e.f e.l e.c e.p e.i) 32 (0, 0)) := by rw [hv5, htb]; exact setRow_heap _ _ _ _ _ _ (G.heap_new _ _)
      have P5 := Lib.hid p5
      have B5 := Lib.hid b5
      have R5 := Lib.hid (HRW.out.below b5)
      have D5 := Lib.hid (H.out.1.below b5)
      have HV5 := Lib.hid hv5
      have HTB := Lib.hid htb
      clear p5 b5 hv5 htb
      go_upto_region 4 with (fail)
      iterate 4 (first | go_values | go_skip | go_guarded | go_step | go_upon)
      refine wpList_load_elem rfl (.tmp 13) rfl b (p + k * 19) rfl e HRG.out ?_
      iterate 3 (first | go_values | go_skip | go_guarded | go_step | go_upon)
      refine wpList_store_row rfl 32 (.tmp 6) (.tmp 14) rfl _ (oc e.o e.f e.l e.c e.p e.i) rfl rfl 32 _ (G.heap_new _ _) size32 rfl (oc_one e.o e.f e.l e.c e.p e.i) ?_
      rw [← HV5.out, ← HTB.out]
      go_wp2_with (refine wpList_load_row rfl 32 (.tmp 6) rfl tb rfl 32 _ (0, 0) _ P5.out Try.underlying32 rfl size32 ?_)
      cases hs : CodP.shape e.o
      · have hp : packS e.o = (⟨#[]⟩, 13) := by unfold packS; rw [hs]; rfl
        have C1 := Lib.hid (pack_any e.o e.f e.l e.c e.p e.i HZE.out v5 R5.out)
        rw [hp] at C1
        have hq : packAllS (L.map (·.o)) = (⟨#[]⟩, 13) := by
          unfold packAllS
          rw [if_neg]
          intro h
          have := List.all_eq_true.1 h e.o (List.mem_map_of_mem (List.mem_of_getElem? HE.out))
          rw [hs] at this; cases this
        have HQ := Lib.hid hq
        clear hp hq hs
        refine C1.out.mono ?_
        rintro y w6 ⟨rfl, hb6⟩
        go_wp2
        go_ret2
        exact ⟨by rw [HQ.out]; rfl, H.out.2.1.trans (belowLe H.out.2.1.size (G.bthen B5.out hb6))⟩
      · have hp : packS e.o = (bytesS e.o, 0) := by unfold packS; rw [hs]; rfl
        have C1 := Lib.hid (pack_any e.o e.f e.l e.c e.p e.i HZE.out v5 R5.out)
        rw [hp] at C1
        have HS := Lib.hid hs
        have hts := bytesS_le e.o hs
        clear hp hs
        refine C1.out.mono ?_
        rintro y w6 ⟨rfl, hb6⟩
        have D6 := Lib.hid (D5.out.below hb6)
        have B6 := Lib.hid (H.out.2.1.trans (belowLe H.out.2.1.size (G.bthen B5.out hb6)))
        clear hb6
        have hl6 : (BL (bytesAll ((L.take k).map (·.o)))).length + (bytesS e.o).size ≤ 10000000 := by rw [BL_length]; have := HB.out k H.out.2.2.1; omega
        go_wp2_with (go_at_call 54; refine (wstr_any 75 lies75 x _ (bytesS e.o) w6 D6.out hl6).mono ?_; rintro y w7 ⟨rfl, hd7, hf7⟩)
        have hlt := D6.out.lt
        have hxw : w.heap.size ≤ x := by rw [HX.out]; exact Nat.le_refl _
        have B7 := Lib.hid (hf7.below B6.out hxw B6.out.size)
        have D7 := Lib.hid hd7
        clear hd7 hf7 hlt hl6
        go_roundw
        case rel =>
          refine ⟨k + 1, by omega, by go_num, Lib.hid ⟨?_, B7.out, ?_, by omega⟩⟩
          · have ht : L.take (k + 1) = L.take k ++ [e] := by rw [List.take_add_one, HE.out]; rfl
            rw [ht, List.map_append, List.map_cons, List.map_nil, bytesAll_snoc, BL_append]
            exact D7.out
          · intro e' he'
            rw [List.take_add_one, HE.out] at he'
            rcases List.mem_append.1 he' with h1 | h1
            · exact H.out.2.2.1 e' h1
            · simp at h1; rw [h1]; exact HS.out
        case measure => simp [intOf]; omega
    · obtain rfl : k = L.length := by omega
      have hall : ∀ e ∈ L, CodP.shape e.o = true := by have := H.out.2.2.1; rwa [List.take_length] at this
      have hq : packAllS (L.map (·.o)) = (bytesAll (L.map (·.o)), 0) := by
        unfold packAllS
        rw [if_pos]
        rw [List.all_eq_true]
        intro y hy
        obtain ⟨e, he, rfl⟩ := List.mem_map.1 hy
        exact hall e he
      have HQ := Lib.hid hq
      have hd := H.out.1
      rw [List.take_length] at hd
      have HD := Lib.hid hd
      have HP := Lib.hid H.out.2.2.2
      have HB2 := Lib.hid H.out.2.1
      clear hq hd hall H hk hkn
      by_cases h0 : L = []
      · have hpf : wr.heap[x]? = some (.cells #[.pointer none, .slice none 0 0] 75 (0, 0)) := HP.out (by rw [h0]; rfl)
        have C1 := Lib.hid (string_fresh 75 x wr hpf)
        have HN := Lib.hid h0
        clear hpf h0
        go_wp2_with (go_at_call 43; refine C1.out.mono ?_; rintro y w8 ⟨rfl, hb8⟩)
        go_ret2
        exact ⟨by rw [HQ.out, HN.out]; rfl, HB2.out.trans (belowLe HB2.out.size hb8)⟩
      · have hne : BL (bytesAll (L.map (·.o))) ≠ [] := by
          cases L with
          | nil => exact absurd rfl h0
          | cons e L =>
            intro h
            have := congrArg List.length h
            simp only [List.map_cons, bytesAll] at this
            rw [BL_append, List.length_append, BL_length] at this
            have := bytesS_pos e.o
            simp only [List.length_nil] at *
            omega
        have C1 := Lib.hid (B.string_any 75 x x _ wr HD.out.builder hne)
        have hxw : w.heap.size ≤ x := by rw [HX.out]; exact Nat.le_refl _
        clear hne h0
        go_wp2_with (go_at_call 43; refine C1.out.mono ?_; rintro y w8 ⟨rfl, hb8⟩)
        go_ret2
        exact ⟨by rw [HQ.out]; rfl, HB2.out.trans (belowB hxw hb8)⟩
end Go.Proofs.Ytolndeolehkjoaa
